/-
  The walks of layer 16: the reference's Distance, Common. By an AI agent.
-/
import Derived.Test.YtpigimmgadcogaaRwk
namespace Go.Proofs.Ytpigimmgadcogaa
open Go.RowKit

namespace E
theorem withAt_fst (i : Nat) (ss : List Nat) : (withAt i ss).map (·.1) = ss := by
  induction ss generalizing i with
  | nil => rfl
  | cons s ss ih => simp [withAt, ih]
/-- How many steps are no matches. -/
def nz (l : List (Nat × Nat)) : Nat := (l.filter fun x => x.1 != 0).length
theorem nz_step {l : List (Nat × Nat)} {k : Nat} (h : k < l.length) : nz (l.take (k + 1)) = nz (l.take k) + if l[k].1 = 0 then 0 else 1 := by
  unfold nz
  rw [List.take_succ_eq_append_getElem h, List.filter_append, List.length_append]
  by_cases e : l[k].1 = 0 <;> simp [e]
theorem nz_le (l : List (Nat × Nat)) : nz l ≤ l.length := List.length_filter_le _ _
theorem walk_steps (a b : List Int) : ∀ s ∈ walk a b, s = 0 ∨ s = 1 ∨ s = 2 := by
  refine walk_ind (P := fun _ _ s => ∀ x ∈ s, x = 0 ∨ x = 1 ∨ x = 2) ?_ ?_ ?_ ?_ a b
  · simp
  · rintro x xs ys s - ih y hy
    rcases List.mem_cons.1 hy with rfl | hy
    · exact .inl rfl
    · exact ih y hy
  · rintro x xs b' s - - - ih y hy
    rcases List.mem_cons.1 hy with rfl | hy
    · exact .inr (.inl rfl)
    · exact ih y hy
  · rintro a' y ys s - - - ih z hz
    rcases List.mem_cons.1 hz with rfl | hz
    · exact .inr (.inr rfl)
    · exact ih z hz
theorem nz_cnt (s : List Nat) (h : ∀ x ∈ s, x = 0 ∨ x = 1 ∨ x = 2) (i : Nat) : nz (withAt i s) = cnt 1 s + cnt 2 s := by
  induction s generalizing i with
  | nil => rfl
  | cons x s ih =>
    have := ih (fun y hy => h y (by simp [hy])) (if x = 2 then i else i + 1)
    rw [cnt_cons, cnt_cons]
    have e : nz (withAt i (x :: s)) = (if x = 0 then 0 else 1) + nz (withAt (if x = 2 then i else i + 1) s) := by
      by_cases e : x = 0 <;> simp [nz, withAt, e] <;> omega
    rw [e, this]
    rcases h x (by simp) with rfl | rfl | rfl <;> simp <;> omega
theorem nz_ys (a b : List Int) : nz (ys a b) = dist a b := by
  rw [← walk_dist]
  exact nz_cnt _ (walk_steps a b) 0

/-- The k-th step. -/
theorem ys_at {a b : List Int} {k i j : Nat} (hi : i ≤ a.length) (hj : j ≤ b.length) (hk : k < (ys a b).length) (h : (ys a b).drop k = rest a b i j) :
    (ys a b)[k].2 = i ∧ (((ys a b)[k].1 = 0 ∧ i < a.length ∧ j < b.length ∧ (ys a b).drop (k + 1) = rest a b (i + 1) (j + 1)) ∨ ((ys a b)[k].1 = 1 ∧ i < a.length ∧ (ys a b).drop (k + 1) = rest a b (i + 1) j) ∨ ((ys a b)[k].1 = 2 ∧ j < b.length ∧ (ys a b).drop (k + 1) = rest a b i (j + 1))) := by
  rw [List.drop_eq_getElem_cons hk] at h
  exact rest_next h
theorem take_step {α : Type} {l : List α} {k : Nat} (h : k < l.length) : l.take (k + 1) = l.take k ++ [l[k]] := List.take_succ_eq_append_getElem h
theorem stp_len (l : List (Nat × Nat)) : (stp l).length = l.length := by simp [stp]
end E

/-- The steps, in memory. -/
def E.Arr (W : World) (bb o : Nat) (l : List (Nat × Nat)) : Prop := ∀ k (h : k < l.length), W.cell? ⟨bb, o + k, none⟩ = some (.int .i64 (l[k].1 : Nat))
theorem E.Arr.grown {W W' : World} {bb o : Nat} {l : List (Nat × Nat)} {row : Option Nat} (h : E.Arr W bb o l) (hg : W.grownBy W' row) (hne : some bb ≠ row) : E.Arr W' bb o l := fun k hk => hg.cell (h k hk) hne

theorem refwalk_any (A1 A2 : Option Addr) (c1 c2 B : Nat) (a b : List Int) (w : World) (ha : Reads w B 1 A1 a.length (E.ns a)) (hb : Reads w B 1 A2 b.length (E.ns b)) (hB : B ≤ w.heap.size) (hna : a.length ≤ 1000) (hnb : b.length ≤ 1000) :
    Calls Try.prog 29 #[.slice A1 a.length c1, .slice A2 b.length c2] w fun e W' => ∃ A c bb o, e = .returned (.slice A (E.ys a b).length c) ∧ (0 < (E.ys a b).length → A = some ⟨bb, o, none⟩ ∧ w.heap.size ≤ bb ∧ bb < W'.heap.size) ∧ E.Arr W' bb o (E.ys a b) ∧ Below w.heap.size w W' := by
  refine (refwalk_in A1 A2 c1 c2 B a b w ha hb hB hna hnb).mono ?_
  rintro e w' ⟨v, rfl, hown, hb⟩
  obtain ⟨A, c, rfl, hr⟩ := own_reads hown
  have hr' : Reads w' w'.heap.size 1 A (E.stp (E.ys a b)).length (E.ns (E.stp (E.ys a b))) := by rw [E.stp_len]; exact hr
  by_cases hn : 0 < (E.ys a b).length
  · obtain ⟨bb, o, rfl, h2, h3⟩ := hr'.num (by rw [E.stp_len]; omega)
    refine ⟨_, c, bb, o, rfl, fun _ => ⟨rfl, (hown.lt _ rfl).1, h2⟩, fun k hk => ?_, hb⟩
    have := h3 k (by rw [E.stp_len]; exact hk)
    rw [this]
    simp [E.stp]
  · exact ⟨A, c, 0, 0, rfl, fun h => absurd h hn, fun k hk => absurd hk (by omega), hb⟩

set_option maxRecDepth 10000 in
set_option maxHeartbeats 4000000 in
theorem refdist_any (A1 A2 : Option Addr) (c1 c2 B : Nat) (a b : List Int) (w : World) (ha : Reads w B 1 A1 a.length (E.ns a)) (hb : Reads w B 1 A2 b.length (E.ns b)) (hB : B ≤ w.heap.size) (hna : a.length ≤ 1000) (hnb : b.length ≤ 1000) :
    Calls Try.prog 14 #[.slice A1 a.length c1, .slice A2 b.length c2] w fun e w' => e = .returned (.int .i64 (E.dist a b)) ∧ Below w.heap.size w w' := by
  have WK := Lib.hid (refwalk_any A1 A2 c1 c2 B a b w ha hb hB hna hnb)
  have HL := E.ys_len a b
  have HN := Lib.hid (E.nz_ys a b)
  have HS : Hid (∀ k (h : k < (E.ys a b).length), E.nz ((E.ys a b).take (k + 1)) = E.nz ((E.ys a b).take k) + if (E.ys a b)[k].1 = 0 then 0 else 1) := Lib.hid (fun k h => E.nz_step h)
  clear ha hb
  go_enter Try.func14, Try.ntmps14
  go_wp2_with fail
  refine WK.out.mono ?_
  clear WK
  rintro e w1 ⟨A, c, bb, o, rfl, hA, hc, hbw⟩
  have HC := Lib.hid hc
  have HA := Lib.hid hA
  clear hc hA
  generalize E.ys a b = l at *
  go_wp2
  go_loop [5, 7] (fun vn vi => ∃ k n : Nat, k ≤ l.length ∧ vi = .int .i64 k ∧ vn = .int .i64 n ∧ n ≤ k ∧ Hid (n = E.nz (l.take k))) (fun _ vi => l.length - (intOf vi).toNat)
  case atStart => exact ⟨0, 0, Nat.zero_le _, rfl, rfl, Nat.le_refl _, Lib.hid rfl⟩
  case round =>
    obtain ⟨k, n, hk, rfl, rfl, hnk, hn⟩ := hrel
    by_cases hlt : k < l.length
    · obtain ⟨rfl, -, hbb⟩ := HA.out (by omega)
      have x0 := HC.out k hlt
      have hst := HS.out k hlt
      rw [← hn.out] at hst
      have q0 : (0 : Int) ≤ (k : Int) := by omega
      have q1 : (k : Int) < (l.length : Int) := by omega
      by_cases hz : l[k].1 = 0
      · have hz' : (((l[k].1 : Nat) : Int) != 0) = false := by simp [hz]
        rw [if_pos hz] at hst
        have hn2 : Hid (n = E.nz (l.take (k + 1))) := Lib.hid (by omega)
        clear hn hst hz
        generalize l[k].1 = s at *
        go_wp2
        go_round
        case rel => exact ⟨k + 1, n, hlt, by go_num, rfl, by omega, hn2⟩
        case measure => simp [intOf] <;> omega
      · have hz' : (((l[k].1 : Nat) : Int) != 0) = true := by simp [hz]
        rw [if_neg hz] at hst
        have hn2 : Hid (n + 1 = E.nz (l.take (k + 1))) := Lib.hid (by omega)
        clear hn hst hz
        generalize l[k].1 = s at *
        go_wp2
        go_round
        case rel => exact ⟨k + 1, n + 1, hlt, by go_num, by go_num, by omega, hn2⟩
        case measure => simp [intOf] <;> omega
    · obtain rfl : k = l.length := by omega
      rw [List.take_length, HN.out] at hn
      go_wp2
      go_ret
      exact ⟨ret_int (by rw [hn.out]), hbw⟩

set_option maxRecDepth 10000 in
set_option maxHeartbeats 4000000 in
theorem refcommon_any (A1 A2 : Option Addr) (c1 c2 B : Nat) (a b : List Int) (w : World) (ha : Reads w B 1 A1 a.length (E.ns a)) (hb : Reads w B 1 A2 b.length (E.ns b)) (hB : B ≤ w.heap.size) (hna : a.length ≤ 1000) (hnb : b.length ≤ 1000) :
    Calls Try.prog 21 #[.slice A1 a.length c1, .slice A2 b.length c2] w fun e W' => ∃ A c, e = .returned (.slice A (E.common a b).length c) ∧ Reads W' W'.heap.size 1 A (E.common a b).length (E.ns (E.common a b)) ∧ Below w.heap.size w W' := by
  have OWN0 := Lib.hid (World.ownsRow_lit (base := w.heap.size) (e := 3) (size := 1) w #[] 0 (Nat.le_refl _) (by decide) rfl)
  have hb0 : Below w.heap.size w (w.alloc (.cells #[] 3)) := (Below.refl _ _).alloc (Nat.le_refl _) _
  have WK := Lib.hid (refwalk_any A1 A2 c1 c2 B a b (w.alloc (.cells #[] 3)) (ha.below hb0 hB) (hb.below hb0 hB) (Nat.le_trans hB hb0.size) hna hnb)
  have HL := E.ys_len a b
  have HCC := Lib.hid (E.cst_common a b)
  have HR0 : Hid ((E.ys a b).drop 0 = E.rest a b 0 0) := Lib.hid rfl
  have HEND : Hid ((E.ys a b).length ≤ 2000) := Lib.hid (by omega)
  have HA := Lib.hid ha
  clear ha hb
  obtain ⟨i0, hi0, hz0, hz1, hz2⟩ := info_parts Try.info3
  go_enter Try.func21, Try.ntmps21
  go_wp2_with fail
  refine WK.out.mono ?_
  clear WK
  rintro e w1 ⟨A, c, bb, o, rfl, hA, hc, hb1⟩
  have hbw := hb0.trans (hb1.mono hb0.size)
  have OWN1 := Lib.hid (own_keep OWN0.out hb1)
  have HAA : Hid (0 < (E.ys a b).length → A = some ⟨bb, o, none⟩) := Lib.hid (fun h => (hA h).1)
  have HV : Hid (0 < (E.ys a b).length → bb < w1.heap.size ∧ w.heap.size ≠ bb) := Lib.hid (fun h => ⟨(hA h).2.2, by have := (hA h).2.1; simp at this; omega⟩)
  have HC := Lib.hid hc
  clear hc hA OWN0 hb0 hb1
  go_wp2
  go_loopw [5, 7, 8] (fun vo vi vk wr => ∃ k i j : Nat, k ≤ (E.ys a b).length ∧ vk = .int .i64 k ∧ vi = .int .i64 i ∧ i ≤ a.length ∧ j ≤ b.length ∧ Hid ((E.ys a b).drop k = E.rest a b i j) ∧ wr.ownsRow w.heap.size 3 1 vo (E.cst a ((E.ys a b).take k)).length (E.ns (E.cst a ((E.ys a b).take k))) ∧ Hid (0 < (E.ys a b).length → bb < wr.heap.size ∧ ∀ g, vo.ownBlock = some g → g ≠ bb) ∧ Hid (E.Arr wr bb o (E.ys a b)) ∧ Below w.heap.size w wr) (fun _ _ vk _ => (E.ys a b).length - (intOf vk).toNat)
  case atStart => exact ⟨0, 0, 0, Nat.zero_le _, rfl, rfl, Nat.zero_le _, Nat.zero_le _, HR0, by simpa [E.cst, E.ns] using OWN1.out, Lib.hid (fun h => ⟨(HV.out h).1, fun g hg => by cases hg; exact (HV.out h).2⟩), HC, hbw⟩
  case round =>
    clear OWN1 HV HC HR0
    obtain ⟨k, i, j, hk, rfl, rfl, hi, hj, hd, hown, hv, hc, hb⟩ := hrel
    by_cases hlt : k < (E.ys a b).length
    · obtain rfl := HAA.out (by omega)
      have x0 := hc.out k hlt
      obtain ⟨hy, hcs⟩ := E.ys_at hi hj hlt hd.out
      have hcl := E.cst_len a ((E.ys a b).take k)
      have htk := E.take_step hlt
      have hcsn := E.cst_snoc a ((E.ys a b).take k) (E.ys a b)[k]
      rw [← htk] at hcsn
      have htl : ((E.ys a b).take k).length ≤ 2000 := by have := HEND.out; simp; omega
      have q0 : (0 : Int) ≤ (k : Int) := by omega
      have q1 : (k : Int) < ((E.ys a b).length : Int) := by omega
      have hbb := (hv.out (by omega)).1
      clear hd htk
      rcases hcs with ⟨e1, h1, h2, hd2⟩ | ⟨e1, h1, hd2⟩ | ⟨e1, h2, hd2⟩
      · rw [e1] at x0 hcsn
        rw [if_pos rfl, hy] at hcsn
        obtain ⟨ba, oa, rfl, hba, hca⟩ := (HA.out.below hb hB).num (by omega)
        have y0 := hca i h1
        rw [← getD_at (d := default) h1] at y0
        have q2 : (0 : Int) ≤ (i : Int) := by omega
        have q3 : (i : Int) < (a.length : Int) := by omega
        have hD := Lib.hid hd2
        have hS := Lib.hid hcsn
        clear hca hcsn hd2 hy
        generalize a.getD i default = z at *
        go_wp2_with (at_builtin; refine wpList_append_any _ rfl (.tmp 24) (.tmp 29) _ rfl w.heap.size 3 i0 _ 1 8 Try.underlying22 hi0 hz0 hz1 hz2 rfl (by decide) u5 _ _ rfl (hown.alloc (.cells #[.int .i64 z] 3)) _ _ 1 1 [.int .i64 z] rfl (reads_new wr [.int .i64 z] 3) (by simp [Value.oneCell']) (by simp only [maxLen]; omega) (by omega) (by have := hb.size; simp; omega) ?_; intro v' W2 hown' hgrow hnew; have hb2 : Below w.heap.size w W2 := (hb.alloc hb.size (.cells #[.int .i64 z] 3)).grown hgrow (by have := hb.size; simp; omega) (own_below hown (Nat.le_refl _)); have hc2 := Lib.hid ((hc.out.grown (World.grownBy_alloc wr (.cells #[.int .i64 z] 3) none) (by simp)).grown hgrow (fun e => (hv.out (by omega)).2 bb e.symm rfl)); have x1 := hc2.out k hlt; rw [e1] at x1)
        have hv2 : Hid (0 < (E.ys a b).length → bb < W2.heap.size ∧ ∀ g, v'.ownBlock = some g → g ≠ bb) := Lib.hid (fun h => ⟨by have := hgrow.size; simp at this; omega, fun g hg => by
          rcases hnew with e | e
          · rw [e] at hg; exact (hv.out h).2 g hg
          · rw [e] at hg; simp at hg; omega⟩)
        have hown2 : W2.ownsRow w.heap.size 3 1 v' (E.cst a ((E.ys a b).take (k + 1))).length (E.ns (E.cst a ((E.ys a b).take (k + 1)))) := by
          rw [hS.out]; simpa [E.ns] using hown'
        go_roundw
        case rel => exact ⟨k + 1, i + 1, j + 1, hlt, by go_num, by go_num, h1, h2, hD, hown2, hv2, hc2, hb2⟩
        case measure => simp [intOf] <;> omega
      · rw [e1] at x0 hcsn
        rw [if_neg (by decide), List.append_nil] at hcsn
        have hD := Lib.hid hd2
        have hown2 : wr.ownsRow w.heap.size 3 1 u5 (E.cst a ((E.ys a b).take (k + 1))).length (E.ns (E.cst a ((E.ys a b).take (k + 1)))) := by rw [hcsn]; exact hown
        have HO := Lib.hid hown2
        clear hcsn hd2 hy hown2
        go_wp2
        go_roundw
        case rel => exact ⟨k + 1, i + 1, j, hlt, by go_num, by go_num, h1, hj, hD, HO.out, hv, hc, hb⟩
        case measure => simp [intOf] <;> omega
      · rw [e1] at x0 hcsn
        rw [if_neg (by decide), List.append_nil] at hcsn
        have hD := Lib.hid hd2
        have hown2 : wr.ownsRow w.heap.size 3 1 u5 (E.cst a ((E.ys a b).take (k + 1))).length (E.ns (E.cst a ((E.ys a b).take (k + 1)))) := by rw [hcsn]; exact hown
        have HO := Lib.hid hown2
        clear hcsn hd2 hy hown2
        go_wp2
        go_roundw
        case rel => exact ⟨k + 1, i, j + 1, hlt, by go_num, rfl, hi, h2, hD, HO.out, hv, hc, hb⟩
        case measure => simp [intOf] <;> omega
    · obtain rfl : k = (E.ys a b).length := by omega
      rw [List.take_length, HCC.out] at hown
      obtain ⟨A', c', rfl, hr'⟩ := own_reads hown
      go_wp2
      go_ret
      exact ⟨A', c', rfl, hr', hb⟩
end Go.Proofs.Ytpigimmgadcogaa
