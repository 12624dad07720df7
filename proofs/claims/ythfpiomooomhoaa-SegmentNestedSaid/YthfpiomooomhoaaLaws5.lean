/-
  The statements of layer 22: SegmentNested. By an AI agent.
-/
import Derived.Test.YthfpiomooomhoaaInd
import Derived.Test.YthfpiomooomhoaaLaws2
import Derived.Test.YthfpiomooomhoaaPField
namespace Go.Proofs.Ythfpiomooomhoaa
open Go.RowKit

/-- How many fields contain a word. -/
def S.nst (fs : List (Nat × Nat)) (a b : Nat) : Nat := fs.countP fun x => decide (x.1 ≤ a) && decide (b ≤ x.2)

theorem S.nst_take (fs : List (Nat × Nat)) (a b k : Nat) (h : k < fs.length) : S.nst (fs.take (k + 1)) a b = S.nst (fs.take k) a b + if fs[k].1 ≤ a ∧ b ≤ fs[k].2 then 1 else 0 := by
  rw [List.take_succ_eq_append_getElem h]
  unfold S.nst
  rw [List.countP_append]
  simp only [List.countP_cons, List.countP_nil, Bool.and_eq_true, decide_eq_true_eq, Nat.zero_add]

theorem S.nst_one (gs : List S.G) (w : Nat × Nat) (hw : w ∈ S.words gs) : S.nst (S.fields gs) w.1 w.2 = 1 := by
  obtain ⟨h1, _, h3, h4, h5⟩ := words_mem gs w hw
  have hc := S.fields_cnt gs w.1 (by omega)
  rw [S.gap_false_of h1] at hc
  simp only [Bool.false_eq_true, if_false] at hc
  rw [← hc]
  unfold S.nst S.cnt
  apply List.countP_congr
  intro x hx
  simp only [Bool.and_eq_true, decide_eq_true_eq]
  refine ⟨fun h => ⟨h.1, by omega⟩, fun h => ⟨h.1, ?_⟩⟩
  obtain ⟨_, _, f3, _, f5⟩ := S.fields_mem0 gs x hx
  rcases f5 with f5 | f5
  · omega
  · apply Nat.le_of_not_lt
    intro hlt
    have := h5 x.2 (by omega) hlt
    rw [(S.gap_true f5).1] at this
    exact h1 this.symm

theorem S.indent_fields (gs : List S.G) : S.indent gs = if h : 0 < (S.fields gs).length then (S.fields gs)[0].1 else gs.length := by
  by_cases h : 0 < (S.fields gs).length
  · rw [dif_pos h]
    obtain ⟨m1, m2, m3, _⟩ := S.fields_mem gs _ (List.getElem_mem h)
    refine S.indent_at (by omega) (fun j hj => ?_) m3
    have hc := S.fields_cnt gs j (by omega)
    have ha := S.fields_asc gs
    have hz : S.cnt (S.fields gs) j = 0 := by
      cases hf : S.fields gs with
      | nil => rfl
      | cons x xs =>
        rw [hf] at ha
        simp only [hf, List.getElem_cons_zero] at hj
        obtain ⟨a1, a2, a3, a4⟩ := ha
        exact S.cnt_low (k := x.1) ⟨Nat.le_refl _, a2, a3, a4⟩ hj
    rw [hz] at hc
    cases hg : S.gap gs j
    · rw [hg] at hc; simp at hc
    · exact (S.gap_true hg).1
  · rw [dif_neg h]
    refine S.indent_none (fun j hj => ?_)
    have hc := S.fields_cnt gs j hj
    have hf : S.fields gs = [] := List.eq_nil_of_length_eq_zero (by omega)
    rw [hf] at hc
    cases hg : S.gap gs j
    · rw [hg] at hc; simp [S.cnt] at hc
    · exact (S.gap_true hg).1

set_option maxRecDepth 10000 in
set_option maxHeartbeats 4000000 in
theorem nested_any (A : Option Addr) (c B : Nat) (gs : List S.G) (w : World) (hrow : Row w B A gs) (hB : B ≤ w.heap.size) :
    Calls Try.prog 7 #[.slice A gs.length c] w fun e w' => e = .returned (.bool true) ∧ Below w.heap.size w w' := by
  have HG := Lib.hid (great_any A c B gs w hrow.1 hrow.2.1 hrow.2.2)
  cases hgr : S.great gs
  · obtain ⟨hl, hg⟩ := S.great_false hgr
    rw [hgr] at HG
    clear hgr
    have hwl : (S.words gs).length ≤ 200 := Nat.le_trans (List.length_filterMap_le _ _) (Nat.le_trans (S.spans_length _ _ _) (by omega))
    have hfl : (S.fields gs).length ≤ 200 := Nat.le_trans (List.length_filterMap_le _ _) (Nat.le_trans (S.spans_length _ _ _) (by omega))
    have CF := Lib.hid (fields_any A c B gs w hrow.1 hB (by omega) hrow.2.2)
    have CW : Hid (∀ w', Below w.heap.size w w' → Calls Try.prog 14 #[.slice A gs.length c] w' fun e W' => ∃ A' c', e = .returned (.slice A' (S.words gs).length c') ∧ Reads W' W'.heap.size 2 A' (S.words gs).length ((S.words gs).flatMap S.sc) ∧ Below w'.heap.size w' W') := Lib.hid (fun w' h =>
      words_any A c B gs w' (hrow.1.below h hB) (Nat.le_trans hB h.size) (by omega) hrow.2.2)
    have CI : Hid (∀ w', Below w.heap.size w w' → Calls Try.prog 21 #[.slice A gs.length c] w' fun e W' => e = .returned (.int .i64 (S.indent gs)) ∧ Below w'.heap.size w' W') := Lib.hid (fun w' h =>
      indent_any A c B gs w' (hrow.below h hB) (Nat.le_trans hB h.size))
    have HN := Lib.hid (fun x hx => S.nst_one gs x hx)
    have HI := Lib.hid (S.indent_fields gs)
    clear hrow hg
    generalize S.words gs = ws at *
    generalize S.indent gs = ind at *
    generalize S.fields gs = fs at *
    go_enter Try.func7, Try.ntmps7
    go_wp2_with fail
    refine HG.out.mono ?_
    rintro e w0 ⟨rfl, rfl⟩
    go_wp2_with fail
    refine CF.out.mono ?_
    rintro e w1 ⟨Af, cf, rfl, rf, b1⟩
    go_wp2_with fail
    refine (CW.out _ b1).mono ?_
    rintro e w2 ⟨Aw, cw, rfl, rw2, b2⟩
    have d2 : Below w.heap.size w w2 := b1.trans (b2.mono b1.size)
    have rf2 := (rf.below b2 (Nat.le_refl _)).more b2.size
    clear CW CF HG rf b1 b2
    go_wp2_with fail
    go_loopw [17] (fun i wr => ∃ k : Nat, k ≤ ws.length ∧ i = .int .i64 k ∧ Below w2.heap.size w2 wr) (fun i _ => ws.length - (intOf i).toNat)
    case atStart => exact ⟨0, Nat.zero_le _, rfl, Below.refl _ _⟩
    case round =>
      obtain ⟨k, hk, rfl, hb3⟩ := hrel
      have hbr : Below w.heap.size w wr := d2.trans (hb3.mono d2.size)
      have rfr := rf2.below hb3 (Nat.le_refl _)
      by_cases hlt : k < ws.length
      · obtain ⟨bs, offs, rfl, hlos, hcs⟩ := (rw2.below hb3 (Nat.le_refl _)).span (by omega)
        obtain ⟨e0, e1⟩ := hcs k hlt
        have hn := HN.out _ (List.getElem_mem hlt)
        obtain ⟨a, ha⟩ : ∃ a, ws[k].1 = a := ⟨_, rfl⟩
        obtain ⟨d, hd⟩ : ∃ d, ws[k].2 = d := ⟨_, rfl⟩
        rw [ha, hd] at hn
        rw [ha] at e0
        rw [hd] at e1
        have hn' := Lib.hid hn
        clear hcs hn ha hd
        go_wp2
        have hb4 : Below wr.heap.size wr (wr.alloc (.cells #[.int .i64 a, .int .i64 d] 34)) := (Below.refl _ _).alloc (Nat.le_refl _) _
        have f0 : (wr.alloc (.cells #[.int .i64 a, .int .i64 d] 34)).cell? ⟨wr.heap.size, 0, none⟩ = some (.int .i64 a) := (Two.new wr _ _).cell0
        have f1 : (wr.alloc (.cells #[.int .i64 a, .int .i64 d] 34)).cell? ⟨wr.heap.size, 1, none⟩ = some (.int .i64 d) := (Two.new wr _ _).cell1
        have f2 : wr.heap.size < (wr.alloc (.cells #[.int .i64 a, .int .i64 d] 34)).heap.size := by simp
        generalize wr.alloc (.cells #[.int .i64 a, .int .i64 d] 34) = w3 at *
        have hsz3 := hb3.size
        generalize hBy : wr.heap.size = By at *
        obtain ⟨wo, rfl⟩ : ∃ wo, wo = wr := ⟨_, rfl⟩
        go_loopw [6, 23] (fun v i wi => ∃ j : Nat, j ≤ fs.length ∧ i = .int .i64 j ∧ v = .int .i64 (S.nst (fs.take j) a d) ∧ Below By wo wi ∧ By < wi.heap.size ∧ wi.cell? ⟨By, 0, none⟩ = some (.int .i64 a) ∧ wi.cell? ⟨By, 1, none⟩ = some (.int .i64 d)) (fun _ i _ => fs.length - (intOf i).toNat)
        case atStart => exact ⟨0, Nat.zero_le _, rfl, rfl, hb4, f2, f0, f1⟩
        case round =>
          clear hb4 f0 f1 f2
          obtain ⟨j, hj, rfl, rfl, hb5, g2, g0, g1⟩ := hrel
          by_cases hjl : j < fs.length
          · obtain ⟨bf, offf, rfl, hlof, hcf⟩ := (rfr.below (hb5.mono hsz3) (Nat.le_refl _)).span (by omega)
            obtain ⟨p0, p1⟩ := hcf j hjl
            have HT := Lib.hid (S.nst_take fs a d j hjl)
            have hzl : S.nst (fs.take j) a d ≤ 200 := by
              have : S.nst (fs.take j) a d ≤ (fs.take j).length := List.countP_le_length
              rw [List.length_take] at this
              omega
            obtain ⟨p, hp⟩ : ∃ p, fs[j].1 = p := ⟨_, rfl⟩
            obtain ⟨q, hq⟩ : ∃ q, fs[j].2 = q := ⟨_, rfl⟩
            have HT2 : Hid (S.nst (fs.take (j + 1)) a d = S.nst (fs.take j) a d + if p ≤ a ∧ d ≤ q then 1 else 0) := Lib.hid (by rw [HT.out, hp, hq])
            rw [hp] at p0
            rw [hq] at p1
            clear HT hcf hp hq
            generalize S.nst (fs.take j) a d = z at *
            have h1 : Below By wo (wr.alloc (.cells #[.int .i64 p, .int .i64 q] 34)) := hb5.alloc (Nat.le_of_lt g2) _
            have h2 : By < (wr.alloc (.cells #[.int .i64 p, .int .i64 q] 34)).heap.size := by simp; omega
            have h3 := (((Below.refl wr.heap.size wr).alloc (Nat.le_refl _) (.cells #[.int .i64 p, .int .i64 q] 34)).cell (p := ⟨By, 0, none⟩) g2).trans g0
            have h4 := (((Below.refl wr.heap.size wr).alloc (Nat.le_refl _) (.cells #[.int .i64 p, .int .i64 q] 34)).cell (p := ⟨By, 1, none⟩) g2).trans g1
            by_cases t1 : p ≤ a
            · by_cases t2 : d ≤ q
              · have HT3 : Hid (S.nst (fs.take (j + 1)) a d = z + 1) := Lib.hid (by rw [HT2.out, if_pos ⟨t1, t2⟩])
                go_wp2
                go_roundw
                case rel => exact ⟨j + 1, hjl, by go_num, by rw [HT3.out]; go_num, h1, h2, h3, h4⟩
                case measure => simp [intOf] <;> omega
              · have HT3 : Hid (S.nst (fs.take (j + 1)) a d = z) := Lib.hid (by rw [HT2.out, if_neg (by omega)]; rfl)
                go_wp2
                go_roundw
                case rel => exact ⟨j + 1, hjl, by go_num, by rw [HT3.out], h1, h2, h3, h4⟩
                case measure => simp [intOf] <;> omega
            · have HT3 : Hid (S.nst (fs.take (j + 1)) a d = z) := Lib.hid (by rw [HT2.out, if_neg (by omega)]; rfl)
              go_wp2
              go_roundw
              case rel => exact ⟨j + 1, hjl, by go_num, by rw [HT3.out], h1, h2, h3, h4⟩
              case measure => simp [intOf] <;> omega
          · obtain rfl : j = fs.length := by omega
            rw [List.take_length, hn'.out]
            go_wp2
            go_roundw
            case rel => exact ⟨k + 1, hlt, by go_num, hb3.trans (hb5.mono hsz3)⟩
            case measure => simp [intOf] <;> omega
      · obtain rfl : k = ws.length := by omega
        have CIr := CI.out wr hbr
        by_cases h0 : 0 < fs.length
        · obtain ⟨bf, offf, rfl, hlof, hcf⟩ := rfr.span (by omega)
          obtain ⟨p0, _⟩ := hcf 0 h0
          have hI : ind = fs[0].1 := by rw [HI.out, dif_pos h0]
          rw [← hI] at p0
          have p0' : wr.cell? ⟨bf, offf, none⟩ = some (.int .i64 ind) := by simpa using p0
          have hbf : bf < wr.heap.size := by have := hb3.size; omega
          have h0' : ((fs.length : Int) == 0) = false := beq_eq_false_iff_ne.2 (by omega)
          have q1 : (0 : Int) < (fs.length : Int) := by omega
          have hz : Below wr.heap.size wr wr.drew := (Below.refl _ _).drew
          have K1 : ∀ w7 : World, Below wr.heap.size wr w7 → Calls Try.prog 21 #[.slice A gs.length c] w7 fun e w' => e = .returned (.int .i64 ind) ∧ (w'.cell? ⟨bf, offf, none⟩ = some (.int .i64 ind) ∧ Below wr.heap.size wr w') := fun w7 h7 => by
            refine (CI.out w7 (hbr.trans (h7.mono hbr.size))).mono ?_
            rintro e w' ⟨rfl, h8⟩
            have h9 := h7.trans (h8.mono h7.size)
            exact ⟨rfl, (h9.cell (p := ⟨bf, _, none⟩) hbf).trans p0', h9⟩
          have K2 : ∀ w7 : World, Below wr.heap.size wr w7 → Calls Try.prog 12 #[] w7 fun e w' => e = .returned (.bool true) ∧ (w'.cell? ⟨bf, offf, none⟩ = some (.int .i64 ind) ∧ Below wr.heap.size wr w') := fun w7 h7 => by
            refine (awake_any w7).mono ?_
            rintro e w' ⟨rfl, h8⟩
            have h9 := h7.trans (h8.mono h7.size)
            exact ⟨rfl, (h9.cell (p := ⟨bf, _, none⟩) hbf).trans p0', h9⟩
          clear hI HI CIr CI p0 hcf rfr rf2
          go_wp2
          go_region_held3 (fun w' => w'.cell? ⟨bf, offf, none⟩ = some (.int .i64 ind) ∧ Below wr.heap.size wr w')
            (first | exact ⟨p0', hz⟩ | assumption | (refine ⟨?_, ?_⟩ <;> assumption))
            (first | (go_at_call 21; refine (K1 _ ?_).mono ?_; (first | assumption | exact hz); rintro e w' ⟨rfl, s1, s2⟩) | (go_at_call 12; refine (K2 _ ?_).mono ?_; (first | assumption | exact hz); rintro e w' ⟨rfl, s1, s2⟩))
          all_goals
            go_wp2
            go_ret
            exact ⟨rfl, hbr.trans (s2.mono hbr.size)⟩
        · have hn0 : fs.length = 0 := by omega
          have hI : ind = gs.length := by rw [HI.out, dif_neg h0]
          subst hI
          clear HI h0 rfr rf2
          go_wp2_with (first | (go_at_call 21; refine CIr.mono ?_; clear CIr; rintro e w7 ⟨rfl, h7⟩) | (go_at_call 12; refine (awake_any _).mono ?_; rintro e w8 ⟨rfl, h8⟩))
          go_ret
          exact ⟨rfl, hbr.trans ((h7.trans (h8.mono h7.size)).mono hbr.size)⟩
  · rw [hgr] at HG
    clear hgr hrow
    go_enter Try.func7, Try.ntmps7
    go_wp2_with fail
    refine HG.out.mono ?_
    rintro e w0 ⟨rfl, rfl⟩
    go_wp2_with fail
    refine (awake_any _).mono ?_
    rintro e w5 ⟨rfl, b5⟩
    go_wp2_with fail
    go_ret
    exact ⟨rfl, b5⟩
end Go.Proofs.Ythfpiomooomhoaa
