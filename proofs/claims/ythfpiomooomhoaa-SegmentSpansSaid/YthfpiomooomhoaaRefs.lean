/-
  The walks of layer 22: the reference's Words and Fields. By an AI agent.
-/
import Derived.Test.YthfpiomooomhoaaPRef2
import Derived.Test.YthfpiomooomhoaaLaws4
namespace Go.Proofs.Ythfpiomooomhoaa
open Go.RowKit

namespace S
theorem ext_set (e : Nat) : ∀ (l : List (Nat × Nat)) (m : Nat) (h : l.length = m + 1), ext e l = l.set m ((l[m]'(by omega)).1, e)
  | [], _, h => by simp at h
  | [x], m, h => by
    have : m = 0 := by simpa using h.symm
    subst this; rfl
  | x :: y :: l, m, h => by
    cases m with
    | zero => simp at h
    | succ m =>
      rw [ext_cons e x (by simp), ext_set e (y :: l) m (by simpa using h)]
      simp
theorem rstep_len (gs : List G) (out : List (Nat × Nat)) (i : Nat) : (rstep gs out i).length ≤ out.length + 1 := by
  unfold rstep
  split
  · omega
  · split
    · rw [ext_len]; omega
    · simp
theorem rwords_len (gs : List G) : ∀ k, (rwords gs k).length ≤ k
  | 0 => Nat.le_refl _
  | k + 1 => by rw [rwords_succ]; have := rstep_len gs (rwords gs k) k; have := rwords_len gs k; omega
theorem rwords_ne (gs : List G) : ∀ k, kd gs k ≠ 0 → 0 < (rwords gs (k + 1)).length
  | 0, h => by rw [rwords_succ]; simp [rstep, h]
  | k + 1, h => by
    rw [rwords_succ]
    unfold rstep
    rw [if_neg h]
    split
    · rename_i hc
      rw [ext_len]
      exact rwords_ne gs k (by rw [show k + 1 - 1 = k by omega] at hc; rw [hc.2]; exact h)
    · simp
theorem rfe_len (k : Nat) : ∀ l : List (Nat × Nat), (rfe k l).length ≤ l.length + 1
  | [] => by simp [rfe]
  | [x] => by unfold rfe; split <;> simp
  | x :: y :: l => by show (x :: rfe k (y :: l)).length ≤ _; have := rfe_len k (y :: l); simp only [List.length_cons] at this ⊢; omega
theorem rfields_len (gs : List G) : ∀ k, (rfields gs k).length ≤ k
  | 0 => Nat.le_refl _
  | k + 1 => by
    rw [rfields_succ]
    unfold rfstep
    have := rfields_len gs k
    split
    · omega
    · have := rfe_len k (rfields gs k); omega
end S

/-- The last span's end is stored. -/
theorem own_ext {w : World} {base g cap m : Nat} {l : List (Nat × Nat)} (h : w.ownsRow base 34 2 (.slice (some ⟨g, 0, none⟩) (m + 1) cap) (m + 1) (l.flatMap S.sc)) (hl : l.length = m + 1) (e : Nat) :
    (w.setCell ⟨g, m * 2 + 1, none⟩ (.int .i64 e)).ownsRow base 34 2 (.slice (some ⟨g, 0, none⟩) (m + 1) cap) (m + 1) ((S.ext e l).flatMap S.sc) := by
  have h1 := (h.stored (m * 2 + 1) (.int .i64 e)).1
  rwa [flat_set S.sc 2 l (fun _ => rfl) m 1 (by omega) (by decide) (.int .i64 e) ((l[m]'(by omega)).1, e) (by simp [S.sc]), ← S.ext_set e l m hl] at h1

set_option maxRecDepth 10000 in
set_option maxHeartbeats 4000000 in
theorem refwords_any (A : Option Addr) (c B : Nat) (gs : List S.G) (w : World) (hrow : Row w B A gs) (hB : B ≤ w.heap.size) (hl : gs.length ≤ 1000) :
    Calls Try.prog 19 #[.slice A gs.length c] w fun e W' => ∃ A' c', e = .returned (.slice A' (S.words gs).length c') ∧ Reads W' W'.heap.size 2 A' (S.words gs).length ((S.words gs).flatMap S.sc) ∧ Below w.heap.size w W' := by
  have own0 := World.ownsRow_lit (base := w.heap.size) (e := 34) (size := 2) w #[] 0 (Nat.le_refl _) (by decide) rfl
  have hb0 : Below w.heap.size w (w.alloc (.cells #[] 34)) := (Below.refl _ _).alloc (Nat.le_refl _) _
  have OWN0 := Lib.hid own0
  have HROW := Lib.hid hrow
  clear own0 hrow
  obtain ⟨i0, hi0, hz0, hz1, hz2⟩ := info_parts infoSpan
  go_enter Try.func19, Try.ntmps19
  go_wp2
  go_loopw [3, 4] (fun v i wr => ∃ k : Nat, k ≤ gs.length ∧ i = .int .i64 k ∧ wr.ownsRow w.heap.size 34 2 v (S.rwords gs k).length ((S.rwords gs k).flatMap S.sc) ∧ Below w.heap.size w wr) (fun _ i _ => gs.length - (intOf i).toNat)
  case atStart => exact ⟨0, Nat.zero_le _, rfl, OWN0.out, hb0⟩
  case round =>
    clear hb0 OWN0
    obtain ⟨k, hk, rfl, hown, hb⟩ := hrel
    by_cases hlt : k < gs.length
    · obtain ⟨b, off, rfl, hlo, hc⟩ := (HROW.out.1.below hb hB).glyphD (by omega)
      obtain ⟨c0, c1, c2⟩ := hc k hlt
      have sg := sizeD HROW.out.2.2 hlt
      have hbl : b < wr.heap.size := by have := hb.size; omega
      have HK : S.kd gs k = S.kind (gs.getD k default).t := rfl
      have NB := refkind_any (gs.getD k default).t (gs.getD k default).wd (gs.getD k default).st wr sg
      have HS := Lib.hid (S.rwords_succ gs k)
      have hrl := S.rwords_len gs k
      by_cases h0 : S.kd gs k = 0
      · have h0' : (((S.kind (gs.getD k default).t : Nat) : Int) == 0) = true := by rw [← HK, h0]; rfl
        have HW : Hid (S.rwords gs (k + 1) = S.rwords gs k) := Lib.hid (by rw [HS.out, S.rstep, if_pos h0])
        clear h0 hc sg HK HS
        generalize gs.getD k default = g at *
        go_wp2_with (go_at_call 33; refine NB.mono ?_; clear NB; rintro e w' ⟨rfl, h2⟩)
        go_roundw
        case rel => exact ⟨k + 1, hlt, by go_num, by rw [HW.out]; exact own_keep hown h2, hb.trans (h2.mono hb.size)⟩
        case measure => simp [intOf] <;> omega
      · have h0' : (((S.kind (gs.getD k default).t : Nat) : Int) == 0) = false := beq_eq_false_iff_ne.2 (by rw [← HK]; omega)
        by_cases hk0 : k = 0
        · have q1 : decide (0 < k) = false := decide_eq_false (by omega)
          have HW : Hid (S.rwords gs (k + 1) = S.rwords gs k ++ [(k, k + 1)]) := Lib.hid (by rw [HS.out, S.rstep, if_neg h0, if_neg (by omega)])
          clear h0 hc sg HK HS hk0
          generalize gs.getD k default = g at *
          go_wp2_with (go_at_call 33; refine NB.mono ?_; clear NB; rintro e w1 ⟨rfl, h2⟩)
          go_quiet (fail)
          generalize hw2 : World.drewN _ _ = w2
          have hb2 : Below w1.heap.size w1 w2 := by rw [← hw2]; exact below_drewN (Below.refl _ _) _
          have hown2 := own_keep (own_keep hown h2) hb2
          have hb1 : Below w.heap.size w w1 := hb.trans (h2.mono hb.size)
          have hbb : Below w.heap.size w w2 := hb1.trans (hb2.mono hb1.size)
          clear hw2 hb2 hown h2
          go_wp2_with (at_builtin; refine wpList_append_any _ rfl (.tmp 42) (.tmp 47) _ rfl w.heap.size 34 i0 _ 2 16 Try.underlying28 hi0 hz0 hz1 hz2 rfl (by omega) _ (S.rwords gs k).length _ rfl (hown2.alloc _) _ (some ⟨w2.heap.size, 0, none⟩) 1 1 [.int .i64 k, .int .i64 ((k : Int) + 1)] rfl (reads_newS w2 [.int .i64 k, .int .i64 ((k : Int) + 1)] 34 2 1 rfl (by simp)) (by simp [Value.oneCell']) (by simp only [maxLen]; omega) (by omega) (by have := hbb.size; simp; omega) ?_; intro v1 w3 hown3 hg3 hat3)
          have hb3 : Below w.heap.size w (w2.alloc (.cells #[.int .i64 k, .int .i64 ((k : Int) + 1)] 34)) := hbb.alloc hbb.size _
          have hb4 := hb3.grown hg3 hb3.size (own_below hown2 (Nat.le_refl _))
          have hfin : w3.ownsRow w.heap.size 34 2 v1 (S.rwords gs (k + 1)).length ((S.rwords gs (k + 1)).flatMap S.sc) := by rw [HW.out]; simpa [S.sc] using hown3
          clear hg3 hat3 hb3 hown3
          go_roundw
          case rel => exact ⟨k + 1, hlt, by go_num, hfin, hb4⟩
          case measure => simp [intOf] <;> omega
        · obtain ⟨j, hj⟩ : ∃ j, k = j + 1 := ⟨k - 1, by omega⟩
          have q1 : decide (0 < k) = true := decide_eq_true (by omega)
          have q5 : IntKind.i64.wrap ((k : Int) - 1) = (j : Int) := by rw [show (k : Int) - 1 = j by omega]; exact i64_nat (by omega)
          have q6 : (0 : Int) ≤ (j : Int) := by omega
          have q7 : (j : Int) < (gs.length : Int) := by omega
          have q8 : (0 : Int) ≤ (k : Int) := by omega
          have q9 : (k : Int) < (gs.length : Int) := by omega
          obtain ⟨d0, d1, d2⟩ := hc j (by omega)
          have sj := sizeD HROW.out.2.2 (k := j) (by omega)
          have hkj : S.kd gs (k - 1) = S.kind (gs.getD j default).t := by rw [show k - 1 = j by omega]; rfl
          have hne : S.kind (gs.getD j default).t = S.kd gs k → 0 < (S.rwords gs k).length := fun e => by
            have := S.rwords_ne gs j (by rw [show S.kd gs j = S.kind (gs.getD j default).t from rfl, e]; exact h0)
            rwa [← hj] at this
          have HW : Hid (S.rwords gs (k + 1) = if S.kind (gs.getD j default).t = S.kd gs k then S.ext (k + 1) (S.rwords gs k) else S.rwords gs k ++ [(k, k + 1)]) := Lib.hid (by
            rw [HS.out, S.rstep, if_neg h0, hkj]
            by_cases e : S.kind (gs.getD j default).t = S.kd gs k
            · rw [if_pos ⟨by omega, e⟩, if_pos e]
            · rw [if_neg (fun h => e h.2), if_neg e])
          rw [HK] at HW hne
          clear h0 hc HK HS hk0 hkj hj
          generalize gs.getD k default = g at *
          generalize gs.getD j default = gj at *
          have K : ∀ (x : S.G) (w1 : World), x.t.size ≤ maxLen → (w1.cell? ⟨b, off + j * 3, none⟩ = some (.string gj.t) ∧ w1.cell? ⟨b, off + j * 3 + 1, none⟩ = some (.bool gj.wd) ∧ w1.cell? ⟨b, off + j * 3 + 2, none⟩ = some (.int .i64 gj.st) ∧ w1.cell? ⟨b, off + k * 3, none⟩ = some (.string g.t) ∧ w1.cell? ⟨b, off + k * 3 + 1, none⟩ = some (.bool g.wd) ∧ w1.cell? ⟨b, off + k * 3 + 2, none⟩ = some (.int .i64 g.st) ∧ Below wr.heap.size wr w1) → Calls Try.prog 33 #[.agg #[.string x.t, .bool x.wd, .int .i64 x.st]] w1 fun e w' => e = .returned (.int .i64 (S.kind x.t)) ∧ (w'.cell? ⟨b, off + j * 3, none⟩ = some (.string gj.t) ∧ w'.cell? ⟨b, off + j * 3 + 1, none⟩ = some (.bool gj.wd) ∧ w'.cell? ⟨b, off + j * 3 + 2, none⟩ = some (.int .i64 gj.st) ∧ w'.cell? ⟨b, off + k * 3, none⟩ = some (.string g.t) ∧ w'.cell? ⟨b, off + k * 3 + 1, none⟩ = some (.bool g.wd) ∧ w'.cell? ⟨b, off + k * 3 + 2, none⟩ = some (.int .i64 g.st) ∧ Below wr.heap.size wr w') := by
            rintro x w1 hsz ⟨z0, z1, z2, z3, z4, z5, z6⟩
            refine (refkind_any x.t x.wd x.st w1 hsz).mono ?_
            rintro e w' ⟨rfl, h2⟩
            have hb1 : b < w1.heap.size := by have := z6.size; omega
            exact ⟨rfl, (h2.cell (p := ⟨b, _, none⟩) hb1).trans z0, (h2.cell (p := ⟨b, _, none⟩) hb1).trans z1, (h2.cell (p := ⟨b, _, none⟩) hb1).trans z2, (h2.cell (p := ⟨b, _, none⟩) hb1).trans z3, (h2.cell (p := ⟨b, _, none⟩) hb1).trans z4, (h2.cell (p := ⟨b, _, none⟩) hb1).trans z5, z6.trans (h2.mono z6.size)⟩
          have NB2 := K g wr sg ⟨d0, d1, d2, c0, c1, c2, Below.refl _ _⟩
          clear NB
          by_cases e : S.kind gj.t = S.kind g.t
          · have r1 : (((S.kind gj.t : Nat) : Int) == ((S.kind g.t : Nat) : Int)) = true := beq_iff_eq.2 (by omega)
            have HW2 : Hid (S.rwords gs (k + 1) = S.ext (k + 1) (S.rwords gs k)) := Lib.hid (by rw [HW.out, if_pos e])
            obtain ⟨m, hm⟩ : ∃ m, (S.rwords gs k).length = m + 1 := ⟨(S.rwords gs k).length - 1, by have := hne e; omega⟩
            have HM := Lib.hid hm
            rw [hm] at hown hrl
            obtain ⟨gg, cap, rfl⟩ := ownsRow_succ hown
            clear HW hne e hm
            go_wp2_with (go_at_call 33; refine NB2.mono ?_; clear NB2; rintro e w1 ⟨rfl, y0, y1, y2, y3, y4, y5, y6⟩)
            have hyd : Below wr.heap.size wr w1.drew := y6.drew
            go_region_held3 (fun w' => w'.cell? ⟨b, off + j * 3, none⟩ = some (.string gj.t) ∧ w'.cell? ⟨b, off + j * 3 + 1, none⟩ = some (.bool gj.wd) ∧ w'.cell? ⟨b, off + j * 3 + 2, none⟩ = some (.int .i64 gj.st) ∧ w'.cell? ⟨b, off + k * 3, none⟩ = some (.string g.t) ∧ w'.cell? ⟨b, off + k * 3 + 1, none⟩ = some (.bool g.wd) ∧ w'.cell? ⟨b, off + k * 3 + 2, none⟩ = some (.int .i64 g.st) ∧ Below wr.heap.size wr w')
              (first | exact ⟨y0, y1, y2, y3, y4, y5, hyd⟩ | assumption | (refine ⟨?_, ?_, ?_, ?_, ?_, ?_, ?_⟩ <;> assumption))
              (first | (go_at_call 33; refine (K _ _ ?_ ?_).mono ?_; assumption; (first | exact ⟨y0, y1, y2, y3, y4, y5, hyd⟩ | assumption); rintro e w' ⟨rfl, hS⟩; have hS' := hS; obtain ⟨s0, s1, s2, s3, s4, s5, s6⟩ := hS'))
            all_goals
              have hown2 := own_keep hown s6
              have hfz := hown2.frozenAt (m * 2 + 1)
              have hce := hown2.cellAt (m * 2 + 1) (by omega)
              have hg := flat_get S.sc 2 (S.rwords gs k) (fun _ => rfl) m 1 (by decide)
              have hml : m < (S.rwords gs k).length := by have := HM.out; omega
              rw [hg, List.getElem?_eq_getElem hml] at hce
              obtain ⟨zz, hzz⟩ : ∃ zz : Nat, ((S.rwords gs k)[m]).2 = zz := ⟨_, rfl⟩
              have hce2 : w'.cell? ⟨gg, m * 2 + 1, none⟩ = some (.int .i64 zz) := by rw [hce, ← hzz]; rfl
              have hbase : w.heap.size ≤ gg := by
                obtain ⟨g3, cap3, hv3, hg3, _⟩ := hown2.form (by omega)
                injection hv3 with e1
                injection e1 with e1
                injection e1 with e1
                omega
              have hst := Lib.hid (own_ext hown2 HM.out (k + 1))
              have hbb : Below w.heap.size w w' := hb.trans (s6.mono hb.size)
              clear hce hg hown hown2 hzz hml
              go_wp2
              go_roundw
              case rel => exact ⟨k + 1, hlt, by go_num, by rw [HW2.out, S.ext_len, HM.out]; exact hst.out, hbb.setCell hbase _⟩
              case measure => simp [intOf] <;> omega
          · have r1 : (((S.kind gj.t : Nat) : Int) == ((S.kind g.t : Nat) : Int)) = false := beq_eq_false_iff_ne.2 (by omega)
            have HW2 : Hid (S.rwords gs (k + 1) = S.rwords gs k ++ [(k, k + 1)]) := Lib.hid (by rw [HW.out, if_neg e])
            clear HW hne e
            have HW := HW2
            go_wp2_with (go_at_call 33; refine NB2.mono ?_; clear NB2; rintro e w1 ⟨rfl, y0, y1, y2, y3, y4, y5, y6⟩)
            have hyd : Below wr.heap.size wr w1.drew := y6.drew
            go_region_held3 (fun w' => w'.cell? ⟨b, off + j * 3, none⟩ = some (.string gj.t) ∧ w'.cell? ⟨b, off + j * 3 + 1, none⟩ = some (.bool gj.wd) ∧ w'.cell? ⟨b, off + j * 3 + 2, none⟩ = some (.int .i64 gj.st) ∧ w'.cell? ⟨b, off + k * 3, none⟩ = some (.string g.t) ∧ w'.cell? ⟨b, off + k * 3 + 1, none⟩ = some (.bool g.wd) ∧ w'.cell? ⟨b, off + k * 3 + 2, none⟩ = some (.int .i64 g.st) ∧ Below wr.heap.size wr w')
              (first | exact ⟨y0, y1, y2, y3, y4, y5, hyd⟩ | assumption | (refine ⟨?_, ?_, ?_, ?_, ?_, ?_, ?_⟩ <;> assumption))
              (first | (go_at_call 33; refine (K _ _ ?_ ?_).mono ?_; assumption; (first | exact ⟨y0, y1, y2, y3, y4, y5, hyd⟩ | assumption); rintro e w' ⟨rfl, hS⟩; have hS' := hS; obtain ⟨s0, s1, s2, s3, s4, s5, s6⟩ := hS'))
            all_goals
              have hown2 := own_keep hown s6
              have hbb : Below w.heap.size w w' := hb.trans (s6.mono hb.size)
              go_wp2_with (at_builtin; refine wpList_append_any _ rfl (.tmp 42) (.tmp 47) _ rfl w.heap.size 34 i0 _ 2 16 Try.underlying28 hi0 hz0 hz1 hz2 rfl (by omega) _ (S.rwords gs k).length _ rfl (hown2.alloc _) _ (some ⟨w'.heap.size, 0, none⟩) 1 1 [.int .i64 k, .int .i64 ((k : Int) + 1)] rfl (reads_newS w' [.int .i64 k, .int .i64 ((k : Int) + 1)] 34 2 1 rfl (by simp)) (by simp [Value.oneCell']) (by simp only [maxLen]; omega) (by omega) (by have := hbb.size; simp; omega) ?_; intro v1 w3 hown3 hg3 hat3)
              have hb3 : Below w.heap.size w (w'.alloc (.cells #[.int .i64 k, .int .i64 ((k : Int) + 1)] 34)) := hbb.alloc hbb.size _
              have hb4 := hb3.grown hg3 hb3.size (own_below hown2 (Nat.le_refl _))
              have hfin : w3.ownsRow w.heap.size 34 2 v1 (S.rwords gs (k + 1)).length ((S.rwords gs (k + 1)).flatMap S.sc) := by rw [HW.out]; simpa [S.sc] using hown3
              clear hg3 hat3 hb3 hown3
              go_roundw
              case rel => exact ⟨k + 1, hlt, by go_num, hfin, hb4⟩
              case measure => simp [intOf] <;> omega
    · obtain rfl : k = gs.length := by omega
      rw [S.words_ref] at hown
      go_wp2
      go_ret
      obtain ⟨A1, c1, hv, hr⟩ := own_any hown
      exact ⟨A1, c1, by rw [hv]; rfl, hr, hb⟩
theorem S.FL.le {kd : Nat → Nat} {n : Nat} : ∀ {xs : List (Nat × Nat)} {s : Nat}, S.FL kd n s xs → ∀ x ∈ xs, x.2 ≤ n
  | [], _, _, x, hx => by simp at hx
  | y :: ys, s, ⟨_, _, _, _, a5, _, _, _, a9⟩, x, hx => by
    rcases List.mem_cons.1 hx with rfl | hx
    · exact a5
    · exact a9.le x hx

set_option maxRecDepth 10000 in
set_option maxHeartbeats 4000000 in
theorem reffields_any (A : Option Addr) (c B : Nat) (gs : List S.G) (w : World) (hrow : Row w B A gs) (hB : B ≤ w.heap.size) (hl : gs.length ≤ 1000) :
    Calls Try.prog 20 #[.slice A gs.length c] w fun e W' => ∃ A' c', e = .returned (.slice A' (S.fields gs).length c') ∧ Reads W' W'.heap.size 2 A' (S.fields gs).length ((S.fields gs).flatMap S.sc) ∧ Below w.heap.size w W' := by
  have own0 := World.ownsRow_lit (base := w.heap.size) (e := 34) (size := 2) w #[] 0 (Nat.le_refl _) (by decide) rfl
  have hb0 : Below w.heap.size w (w.alloc (.cells #[] 34)) := (Below.refl _ _).alloc (Nat.le_refl _) _
  have OWN0 := Lib.hid own0
  have HROW := Lib.hid hrow
  clear own0 hrow
  obtain ⟨i0, hi0, hz0, hz1, hz2⟩ := info_parts infoSpan
  go_enter Try.func20, Try.ntmps20
  go_wp2
  go_loopw [3, 4] (fun v i wr => ∃ k : Nat, k ≤ gs.length ∧ i = .int .i64 k ∧ wr.ownsRow w.heap.size 34 2 v (S.rfields gs k).length ((S.rfields gs k).flatMap S.sc) ∧ Below w.heap.size w wr) (fun _ i _ => gs.length - (intOf i).toNat)
  case atStart => exact ⟨0, Nat.zero_le _, rfl, OWN0.out, hb0⟩
  case round =>
    clear hb0 OWN0
    obtain ⟨k, hk, rfl, hown, hb⟩ := hrel
    by_cases hlt : k < gs.length
    · obtain ⟨b, off, rfl, hlo, hc⟩ := (HROW.out.1.below hb hB).glyphD (by omega)
      obtain ⟨c0, c1, c2⟩ := hc k hlt
      have sg := sizeD HROW.out.2.2 hlt
      have HK : S.kd gs k = S.kind (gs.getD k default).t := rfl
      have NB := refkind_any (gs.getD k default).t (gs.getD k default).wd (gs.getD k default).st wr sg
      have HS := Lib.hid (S.rfields_succ gs k)
      have hrl := S.rfields_len gs k
      by_cases h0 : S.kd gs k = 0
      · have h0' : (((S.kind (gs.getD k default).t : Nat) : Int) == 0) = true := by rw [← HK, h0]; rfl
        have HW : Hid (S.rfields gs (k + 1) = S.rfields gs k) := Lib.hid (by rw [HS.out, S.rfstep, if_pos h0])
        clear h0 hc sg HK HS
        generalize gs.getD k default = g at *
        go_wp2_with (go_at_call 33; refine NB.mono ?_; clear NB; rintro e w' ⟨rfl, h2⟩)
        go_roundw
        case rel => exact ⟨k + 1, hlt, by go_num, by rw [HW.out]; exact own_keep hown h2, hb.trans (h2.mono hb.size)⟩
        case measure => simp [intOf] <;> omega
      · have h0' : (((S.kind (gs.getD k default).t : Nat) : Int) == 0) = false := beq_eq_false_iff_ne.2 (by rw [← HK]; omega)
        have HW : Hid (S.rfields gs (k + 1) = S.rfe k (S.rfields gs k)) := Lib.hid (by rw [HS.out, S.rfstep, if_neg h0])
        have HF := Lib.hid (S.FL.le (S.FL_rfields gs k))
        clear h0 hc sg HK HS
        generalize gs.getD k default = g at *
        by_cases hN : (S.rfields gs k).length = 0
        · have hnil : S.rfields gs k = [] := List.eq_nil_of_length_eq_zero hN
          have HM := Lib.hid hN
          rw [hN] at hown
          have HW2 : Hid (S.rfields gs (k + 1) = S.rfields gs k ++ [(k, k + 1)]) := Lib.hid (by rw [HW.out, hnil]; rfl)
          clear HW hN hnil hrl
          obtain ⟨Ax, cx, rfl, _⟩ := own_any hown
          go_wp2_with (first | (go_at_call 33; refine NB.mono ?_; clear NB; rintro e w1 ⟨rfl, h2⟩; have hown2 := own_keep hown h2; have hbb : Below w.heap.size w w1 := hb.trans (h2.mono hb.size)) | (at_builtin; refine wpList_append_any _ rfl (.tmp 41) (.tmp 46) _ rfl w.heap.size 34 i0 _ 2 16 Try.underlying28 hi0 hz0 hz1 hz2 rfl (by omega) _ 0 _ rfl (hown2.alloc _) _ (some ⟨w1.heap.size, 0, none⟩) 1 1 [.int .i64 k, .int .i64 ((k : Int) + 1)] rfl (reads_newS w1 [.int .i64 k, .int .i64 ((k : Int) + 1)] 34 2 1 rfl (by simp)) (by simp [Value.oneCell']) (by simp only [maxLen]; omega) (by omega) (by have := hbb.size; simp; omega) ?_; intro v1 w3 hown3 hg3 hat3))
          have hb3 : Below w.heap.size w (w1.alloc (.cells #[.int .i64 k, .int .i64 ((k : Int) + 1)] 34)) := hbb.alloc hbb.size _
          have hb4 := hb3.grown hg3 hb3.size (own_below hown2 (Nat.le_refl _))
          have hfin : w3.ownsRow w.heap.size 34 2 v1 (S.rfields gs (k + 1)).length ((S.rfields gs (k + 1)).flatMap S.sc) := by rw [HW2.out]; simpa [S.sc, HM.out] using hown3
          clear hg3 hat3 hb3 hown3
          go_roundw
          case rel => exact ⟨k + 1, hlt, by go_num, hfin, hb4⟩
          case measure => simp [intOf] <;> omega
        · obtain ⟨m, hm⟩ : ∃ m, (S.rfields gs k).length = m + 1 := ⟨(S.rfields gs k).length - 1, by omega⟩
          have HM := Lib.hid hm
          have hml : m < (S.rfields gs k).length := by omega
          obtain ⟨z, hz⟩ : ∃ z : Nat, ((S.rfields gs k)[m]).2 = z := ⟨_, rfl⟩
          have hzk : z ≤ k := by rw [← hz]; exact HF.out _ (List.getElem_mem hml)
          have hne : S.rfields gs k ≠ [] := by intro h; rw [h] at hm; simp at hm
          have hlast : ((S.rfields gs k).getLast hne).2 = z := by
            rw [List.getLast_eq_getElem, ← hz]
            congr 2
            omega
          have HW3 : Hid (S.rfields gs (k + 1) = if k < z + 2 then S.ext (k + 1) (S.rfields gs k) else S.rfields gs k ++ [(k, k + 1)]) := Lib.hid (by rw [HW.out, S.rfe_eq k _ hne, hlast])
          have hg := flat_get S.sc 2 (S.rfields gs k) (fun _ => rfl) m 1 (by decide)
          rw [List.getElem?_eq_getElem hml] at hg
          have HCE : Hid (((S.rfields gs k).flatMap S.sc)[m * 2 + 1]? = some (.int .i64 z)) := Lib.hid (by rw [hg, ← hz]; rfl)
          rw [hm] at hown hrl
          obtain ⟨gg, cap, rfl⟩ := ownsRow_succ hown
          have hbase : w.heap.size ≤ gg := by
            obtain ⟨g3, cap3, hv3, hg3, _⟩ := hown.form (by omega)
            injection hv3 with e1
            injection e1 with e1
            injection e1 with e1
            omega
          clear HW hne hlast hg hz hml hm hN HF
          by_cases hcl : k < z + 2
          · have HW2 : Hid (S.rfields gs (k + 1) = S.ext (k + 1) (S.rfields gs k)) := Lib.hid (by rw [HW3.out, if_pos hcl])
            have HST : Hid (∀ w1 : World, Below wr.heap.size wr w1 → w1.cell? ⟨gg, m * 2 + 1, none⟩ = some (.int .i64 z) ∧ w1.frozen? ⟨gg, m * 2 + 1, none⟩ = false ∧ (w1.setCell ⟨gg, m * 2 + 1, none⟩ (.int .i64 ((k + 1 : Nat) : Int))).ownsRow w.heap.size 34 2 (.slice (some ⟨gg, 0, none⟩) (m + 1) cap) (m + 1) ((S.ext (k + 1) (S.rfields gs k)).flatMap S.sc)) := Lib.hid (fun w1 h => by
              have h3 := own_keep hown h
              exact ⟨(h3.cellAt (m * 2 + 1) (by omega)).trans HCE.out, h3.frozenAt _, own_ext h3 HM.out (k + 1)⟩)
            clear HW3 hown
            go_wp2_with (go_at_call 33; refine NB.mono ?_; clear NB; rintro e w1 ⟨rfl, h2⟩; obtain ⟨x0, x1, x2⟩ := HST.out w1 h2; have HX2 := Lib.hid x2; clear x2 HST)
            go_roundw
            case rel => exact ⟨k + 1, hlt, by go_num, by rw [HW2.out, S.ext_len, HM.out]; exact HX2.out, (hb.trans (h2.mono hb.size)).setCell hbase _⟩
            case measure => simp [intOf] <;> omega
          · have HW2 : Hid (S.rfields gs (k + 1) = S.rfields gs k ++ [(k, k + 1)]) := Lib.hid (by rw [HW3.out, if_neg hcl])
            clear HW3
            go_wp2_with (first | (go_at_call 33; refine NB.mono ?_; clear NB; rintro e w1 ⟨rfl, h2⟩; have hown2 := own_keep hown h2; have hbb : Below w.heap.size w w1 := hb.trans (h2.mono hb.size); have x0 := (hown2.cellAt (m * 2 + 1) (by omega)).trans HCE.out) | (at_builtin; refine wpList_append_any _ rfl (.tmp 41) (.tmp 46) _ rfl w.heap.size 34 i0 _ 2 16 Try.underlying28 hi0 hz0 hz1 hz2 rfl (by omega) _ (m + 1) _ rfl (hown2.alloc _) _ (some ⟨w1.heap.size, 0, none⟩) 1 1 [.int .i64 k, .int .i64 ((k : Int) + 1)] rfl (reads_newS w1 [.int .i64 k, .int .i64 ((k : Int) + 1)] 34 2 1 rfl (by simp)) (by simp [Value.oneCell']) (by simp only [maxLen]; omega) (by omega) (by have := hbb.size; simp; omega) ?_; intro v1 w3 hown3 hg3 hat3))
            have hb3 : Below w.heap.size w (w1.alloc (.cells #[.int .i64 k, .int .i64 ((k : Int) + 1)] 34)) := hbb.alloc hbb.size _
            have hb4 := hb3.grown hg3 hb3.size (own_below hown2 (Nat.le_refl _))
            have hfin : w3.ownsRow w.heap.size 34 2 v1 (S.rfields gs (k + 1)).length ((S.rfields gs (k + 1)).flatMap S.sc) := by rw [HW2.out]; simpa [S.sc, HM.out] using hown3
            clear hg3 hat3 hb3 hown3
            go_roundw
            case rel => exact ⟨k + 1, hlt, by go_num, hfin, hb4⟩
            case measure => simp [intOf] <;> omega
    · obtain rfl : k = gs.length := by omega
      rw [S.fields_ref] at hown
      go_wp2
      go_ret
      obtain ⟨A1, c1, hv, hr⟩ := own_any hown
      exact ⟨A1, c1, by rw [hv]; rfl, hr, hb⟩
end Go.Proofs.Ythfpiomooomhoaa
