/-
  The walks of layer 16: the reference's Script. By an AI agent.
-/
import Derived.Test.YteakiielcmgkeaaRwkI
import Derived.Deep.RegionLaw
namespace Go.Proofs.Yteakiielcmgkeaa
set_option linter.unusedSimpArgs false
set_option linter.unusedVariables false
open Go.RowKit

namespace E
/-- The k-th step. -/
theorem ys_at {a b : List Int} {k i j : Nat} (hi : i ≤ a.length) (hj : j ≤ b.length) (hk : k < (ys a b).length) (h : (ys a b).drop k = rest a b i j) :
    (ys a b)[k].2 = i ∧ (((ys a b)[k].1 = 0 ∧ i < a.length ∧ j < b.length ∧ (ys a b).drop (k + 1) = rest a b (i + 1) (j + 1)) ∨ ((ys a b)[k].1 = 1 ∧ i < a.length ∧ (ys a b).drop (k + 1) = rest a b (i + 1) j) ∨ ((ys a b)[k].1 = 2 ∧ j < b.length ∧ (ys a b).drop (k + 1) = rest a b i (j + 1))) := by
  rw [List.drop_eq_getElem_cons hk] at h
  exact rest_next h
theorem take_step {α : Type} {l : List α} {k : Nat} (h : k < l.length) : l.take (k + 1) = l.take k ++ [l[k]] := List.take_succ_eq_append_getElem h
theorem stp_len (l : List (Nat × Nat)) : (stp l).length = l.length := by simp [stp]
end E

/-- The steps, in memory. -/
def E.Arr (W : World) (bb o : Nat) (l : List (Nat × Nat)) : Prop := ∀ k (h : k < l.length), W.cell? ⟨bb, o + k, none⟩ = some (.int .i64 (l[k].1 : Nat))
theorem E.Arr.grown {W W' : World} {bb o : Nat} {l : List (Nat × Nat)} {row : Option Nat} (h : E.Arr W bb o l) (hg : W.grownBy W' row) (hne : some bb ≠ row) : E.Arr W' bb o l := fun k hk => hg.cell (h k hk) hne

theorem refwalk_any (A1 A2 : Option Addr) (c1 c2 B : Nat) (a b : List Int) (w : World) (ha : Reads w B 1 A1 a.length (E.ns a)) (hb : Reads w B 1 A2 b.length (E.ns b)) (hB : B ≤ w.heap.size) (hna : a.length ≤ 1000) (hnb : b.length ≤ 1000) :
    Calls Try.prog 35 #[.slice A1 a.length c1, .slice A2 b.length c2] w fun e W' => ∃ A c bb o, e = .returned (.slice A (E.ys a b).length c) ∧ (0 < (E.ys a b).length → A = some ⟨bb, o, none⟩ ∧ w.heap.size ≤ bb ∧ bb < W'.heap.size) ∧ E.Arr W' bb o (E.ys a b) ∧ Below w.heap.size w W' := by
  refine (refwalk_in A1 A2 c1 c2 B a b w ha hb hB hna hnb).mono ?_
  rintro e w' ⟨v, rfl, hown, hb⟩
  obtain ⟨A, c, rfl, hr⟩ := own_reads hown
  have hr' : Reads w' w'.heap.size 1 A (E.stp (E.ys a b)).length (E.ns (E.stp (E.ys a b))) := by rw [E.stp_len]; exact hr
  by_cases hn : 0 < (E.ys a b).length
  · obtain ⟨bb, o, rfl, h2, h3⟩ := hr'.num (by rw [E.stp_len]; omega)
    refine ⟨_, c, bb, o, rfl, fun _ => ⟨rfl, (hown.lt _ rfl).1, h2⟩, fun k hk => ?_, hb⟩
    have := h3 k (by rw [E.stp_len]; exact hk)
    rw [this]
    simp [E.stp]
  · exact ⟨A, c, 0, 0, rfl, fun h => absurd h hn, fun k hk => absurd hk (by omega), hb⟩

theorem infoRef : (Try.prog.info? 56).map (fun i => (i.zero, i.size, i.bytes)) = some (some (.agg #[.int .i64 0, .int .i64 0, .slice none 0 0]), 3, 40) := by kernel_rfl
/-- The cells of a number. -/
def E.cv (i : Int) : List Value := [.int .i64 i]
theorem E.flat_cv (l : List Int) : l.flatMap E.cv = E.ns l := by induction l <;> simp_all [E.cv, E.ns]
theorem E.script_small {a b : List Int} (hna : a.length ≤ 1000) (hnb : b.length ≤ 1000) : (E.script a b).length ≤ 2000 ∧ ∀ x ∈ E.script a b, x.ins.length ≤ 2000 := by
  have h := (E.sst_low b (E.ys a b)).1
  have hl := E.ys_len a b
  rw [E.sst_script] at h
  exact ⟨by have := h.1; omega, fun x hx => by have := (h.2 x hx).2.2.1; omega⟩
def E.OutI (w w' : World) (e : Ending) (l : List (E.Ed Int)) : Prop := ∃ v, ∃ es : List (E.Es Int), e = .returned v ∧ E.Eds 56 3 1 E.cv w.heap.size w' v es ∧ es.map (·.ed) = l ∧ Below w.heap.size w w'
namespace E
theorem eds_last {TE TI sz base : Nat} {cv : Int → List Value} {W : World} {g cap : Nat} {l : List (Es Int)} {x : Es Int} (h : Eds TE TI sz cv base W (.slice (some ⟨g, 0, none⟩) (l.length + 1) cap) (l ++ [x])) :
    W.cell? ⟨g, l.length * 3 + 1, none⟩ = some (.int .i64 x.ed.del) ∧ W.cell? ⟨g, l.length * 3 + 2, none⟩ = some x.sl ∧ W.frozen? ⟨g, l.length * 3 + 1, none⟩ = false ∧ W.frozen? ⟨g, l.length * 3 + 2, none⟩ = false := by
  have own1 := h.own
  rw [show (l ++ [x]).length = l.length + 1 by simp] at own1
  have c : ∀ j u, j < 3 → (ec x)[j]? = some u → W.cell? ⟨g, l.length * 3 + j, none⟩ = some u := fun j u hj hu => by
    rw [own1.cellAt (l.length * 3 + j) (by omega), flat_get ec 3 (l ++ [x]) ec_len l.length j hj]
    simpa using hu
  exact ⟨c 1 _ (by decide) rfl, c 2 _ (by decide) rfl, own1.frozenAt _, own1.frozenAt _⟩
theorem own_upd {v : Value} {l : List (Es Int)} {x : Es Int} {d : Ed Int} {g : Nat} (h : Own v (l ++ [⟨d, x.sl⟩]) g) : Own v (l ++ [x]) g := (own_last (x := x) (y := ⟨d, x.sl⟩) rfl g).1 h
theorem own_nil {N c g : Nat} (h : Own (.slice (some ⟨N, 0, none⟩) 0 c) ([] : List (Es Int)) g) : N = g := by
  rcases h with h | ⟨x, hx, _⟩
  · cases h; rfl
  · cases hx
theorem push_ne {v v' : Value} {es : List (Es Int)} {e : Ed Int} {g bb N : Nat} (h : ∀ g, Own v es g → g ≠ bb) (hg : Own v' (es ++ [⟨e, .slice none 0 0⟩]) g) (hnew : v'.ownBlock = v.ownBlock ∨ v'.ownBlock = some N) (hN : bb < N) : g ≠ bb := by
  rcases hg with hg | ⟨x, hx, hg⟩
  · rcases hnew with e | e
    · exact h g (.inl (e ▸ hg))
    · rw [e] at hg; cases hg; omega
  · rcases List.mem_append.1 hx with hx | hx
    · exact h g (.inr ⟨x, hx, hg⟩)
    · simp at hx; subst hx; cases hg
theorem ins_ne {v u : Value} {l : List (Es Int)} {x : Es Int} {d : Ed Int} {g bb N : Nat} (h : ∀ g, Own v (l ++ [x]) g → g ≠ bb) (hg : Own v (l ++ [⟨d, u⟩]) g) (hnew : u.ownBlock = x.sl.ownBlock ∨ u.ownBlock = some N) (hN : bb < N) : g ≠ bb := by
  rcases hg with hg | ⟨y, hy, hg⟩
  · exact h g (.inl hg)
  · rcases List.mem_append.1 hy with hy | hy
    · exact h g (.inr ⟨y, by simp [hy], hg⟩)
    · simp at hy
      subst hy
      rcases hnew with e | e
      · simp only at hg; rw [e] at hg; exact h g (.inr ⟨x, by simp, hg⟩)
      · simp only at hg; rw [e] at hg; cases hg; omega
end E

set_option maxRecDepth 100000 in
set_option maxHeartbeats 16000000 in
theorem refscript_any (A1 A2 : Option Addr) (c1 c2 B : Nat) (a b : List Int) (w : World) (ha : Reads w B 1 A1 a.length (E.ns a)) (hb : Reads w B 1 A2 b.length (E.ns b)) (hB : B ≤ w.heap.size) (hna : a.length ≤ 1000) (hnb : b.length ≤ 1000) :
    Calls Try.prog 30 #[.slice A1 a.length c1, .slice A2 b.length c2] w fun e W' => E.OutI w W' e (E.script a b) := by
  have OWN0 := Lib.hid (World.ownsRow_lit (base := w.heap.size) (e := 56) (size := 3) w #[] 0 (Nat.le_refl _) (by decide) rfl)
  have hb0 : Below w.heap.size w (w.alloc (.cells #[] 56)) := (Below.refl _ _).alloc (Nat.le_refl _) _
  have WK := Lib.hid (refwalk_any A1 A2 c1 c2 B a b (w.alloc (.cells #[] 56)) (ha.below hb0 hB) (hb.below hb0 hB) (Nat.le_trans hB hb0.size) hna hnb)
  have HL := E.ys_len a b
  have HSC := Lib.hid (E.sst_script a b)
  have HR0 : Hid ((E.ys a b).drop 0 = E.rest a b 0 0) := Lib.hid rfl
  have HEND : Hid ((E.ys a b).length ≤ 2000) := Lib.hid (by omega)
  have HINS := Lib.hid (E.script_small hna hnb)
  have HB := Lib.hid hb
  clear ha hb
  obtain ⟨i0, hi0, hz0, hz1, hz2⟩ := info_parts Try.info3
  obtain ⟨iE, hiE, hE0, hE1, hE2'⟩ := info_parts infoRef
  go_enter Try.func30, Try.ntmps30
  go_wp2_with fail
  refine WK.out.mono ?_
  clear WK
  rintro e w1 ⟨A, c, bb, o, rfl, hA, hc, hb1⟩
  have hbw := hb0.trans (hb1.mono hb0.size)
  have OWN1 := Lib.hid (own_keep OWN0.out hb1)
  have HAA : Hid (0 < (E.ys a b).length → A = some ⟨bb, o, none⟩) := Lib.hid (fun h => (hA h).1)
  have HV : Hid (0 < (E.ys a b).length → bb < w1.heap.size ∧ w.heap.size ≠ bb) := Lib.hid (fun h => ⟨(hA h).2.2, by have := (hA h).2.1; simp at this; omega⟩)
  have HC := Lib.hid hc
  clear hc hA OWN0 hb0 hb1
  go_wp2
  go_loopw [5, 7, 8, 9, 10] (fun vo vi vj vp vk wr => ∃ (k i j : Nat) (es : List (E.Es Int)), k ≤ (E.ys a b).length ∧ vk = .int .i64 k ∧ vi = .int .i64 i ∧ vj = .int .i64 j ∧ i ≤ a.length ∧ j ≤ b.length ∧ Hid ((E.ys a b).drop k = E.rest a b i j) ∧ E.Eds 56 3 1 E.cv w.heap.size wr vo es ∧ Hid (es.map (·.ed) = (E.sst b ((E.ys a b).take k)).1) ∧ vp = .bool (E.sst b ((E.ys a b).take k)).2.1 ∧ Hid ((E.sst b ((E.ys a b).take k)).2.2 = j) ∧ Hid (0 < (E.ys a b).length → bb < wr.heap.size ∧ ∀ g, E.Own vo es g → g ≠ bb) ∧ Hid (E.Arr wr bb o (E.ys a b)) ∧ Below w.heap.size w wr) (fun _ _ _ _ vk _ => (E.ys a b).length - (intOf vk).toNat)
  case atStart => exact ⟨0, 0, 0, [], Nat.zero_le _, rfl, rfl, rfl, Nat.zero_le _, Nat.zero_le _, HR0, ⟨by simpa using OWN1.out, (fun x hx => by cases hx), List.Pairwise.nil⟩, Lib.hid rfl, rfl, Lib.hid rfl, Lib.hid (fun h => ⟨(HV.out h).1, fun g hg => by have := E.own_nil hg; subst this; exact (HV.out h).2⟩), HC, hbw⟩
  case round =>
    clear OWN1 HV HC HR0
    obtain ⟨k, i, j, es, hk, rfl, rfl, rfl, hi, hj, hd, hE, hM, rfl, hJ, hv, hc, hb⟩ := hrel
    by_cases hlt : k < (E.ys a b).length
    · obtain rfl := HAA.out (by omega)
      have x0 := hc.out k hlt
      obtain ⟨hy, hcs⟩ := E.ys_at hi hj hlt hd.out
      have htk := E.take_step hlt
      have hsn := E.sst_snoc b ((E.ys a b).take k) (E.ys a b)[k]
      rw [← htk] at hsn
      obtain ⟨hlow, hopn⟩ := E.sst_low b ((E.ys a b).take k)
      have htl : ((E.ys a b).take k).length ≤ 2000 := by have := HEND.out; simp; omega
      have q0 : (0 : Int) ≤ (k : Int) := by omega
      have q1 : (k : Int) < ((E.ys a b).length : Int) := by omega
      have hbb := (hv.out (by omega)).1
      have hJ2 := hJ.out
      rw [show (E.ys a b)[k] = ((E.ys a b)[k].1, i) from Prod.ext rfl hy] at hsn
      clear hd htk hJ hy
      generalize E.sst b ((E.ys a b).take k) = st at *
      obtain ⟨eds, op, jj⟩ := st
      dsimp only at *
      subst hJ2
      rcases hcs with ⟨e1, h1, h2, hd2⟩ | ⟨e1, h1, hd2⟩ | ⟨e1, h2, hd2⟩
      all_goals rw [e1] at x0 hsn
      · rw [E.sstep_0] at hsn
        have hD := Lib.hid hd2
        have hS := Lib.hid hsn
        have hM2 : Hid (es.map (·.ed) = (E.sst b ((E.ys a b).take (k + 1))).1) := Lib.hid (by rw [hsn]; exact hM.out)
        have hE2 := hE
        have hb2 := hb
        have hv2 := hv
        have hc2 := hc
        clear hsn hd2 hlow hopn hM hE hb hv hc
        go_wp2
        go_roundw
        case rel => exact ⟨k + 1, i + 1, jj + 1, es, hlt, by go_num, by first | rfl | go_num, by first | rfl | go_num, h1, h2, hD, hE2, hM2, by rw [hS.out], Lib.hid (by rw [hS.out]), hv2, hc2, hb2⟩
        case measure => simp [intOf] <;> omega
      · cases op with
        | true =>
          -- a deletion, an open edit
          rw [E.sstep_1] at hsn
          obtain ⟨el, xl, rfl⟩ : ∃ l y, es = l ++ [y] := by
            rcases List.eq_nil_or_concat es with rfl | ⟨l, y, e⟩
            · exact absurd hM.out.symm (hopn rfl)
            · exact ⟨l, y, by simpa using e⟩
          obtain ⟨g, cap, rfl⟩ := ownsRow_succ (show wr.ownsRow w.heap.size 56 3 u5 (el.length + 1) _ from by have := hE.own; rwa [show (el ++ [xl]).length = el.length + 1 by simp] at this)
          obtain ⟨cd, csl, fd, fsl⟩ := E.eds_last hE
          have hxl := hlow.2 xl.ed (by rw [← hM.out]; simp)
          have hel : el.length ≤ 2000 := by have := hlow.1; rw [← hM.out] at this; simp at this; omega
          have u2 : IntKind.i64.wrap ((el.length : Int) + 1 - 1) = (el.length : Int) := by simp [IntKind.wrap, IntKind.bits, IntKind.signed]; omega
          have u3 : IntKind.i64.wrap (el.length : Int) = (el.length : Int) := by simp [IntKind.wrap, IntKind.bits, IntKind.signed]; omega
          have q4 : (0 : Int) ≤ (el.length : Int) := by omega
          have q5 : (el.length : Int) < (el.length : Int) + 1 := by omega
          have hgb : g ≠ bb := (hv.out (by omega)).2 g (.inl rfl)
          have hgw : w.heap.size ≤ g := (hE.own.lt g rfl).1
          have u4 : IntKind.i64.wrap (xl.ed.del + 1) = xl.ed.del + 1 := by simp [IntKind.wrap, IntKind.bits, IntKind.signed]; omega
          have hE2 := E.eds_del (by decide : (56 : Nat) ≠ 3) rfl hE (xl.ed.del + 1)
          have hM2 : Hid ((el ++ [(⟨{ xl.ed with del := xl.ed.del + 1 }, xl.sl⟩ : E.Es Int)]).map (·.ed) = (E.sst b ((E.ys a b).take (k + 1))).1) := Lib.hid (by rw [hsn, ← hM.out]; simp [E.modLast_snoc])
          have hb2 : Below w.heap.size w (wr.setCell ⟨g, el.length * 3 + 1, none⟩ (.int .i64 (xl.ed.del + 1))) := hb.setCell hgw _
          have hv2 : Hid (0 < (E.ys a b).length → bb < (wr.setCell ⟨g, el.length * 3 + 1, none⟩ (.int .i64 (xl.ed.del + 1))).heap.size ∧ ∀ g', E.Own (.slice (some ⟨g, 0, none⟩) (el.length + 1) cap) (el ++ [(⟨{ xl.ed with del := xl.ed.del + 1 }, xl.sl⟩ : E.Es Int)]) g' → g' ≠ bb) := Lib.hid (fun h => ⟨by simpa using (hv.out h).1, fun g' hg' => (hv.out h).2 g' (E.own_upd hg')⟩)
          have hc2 : Hid (E.Arr (wr.setCell ⟨g, el.length * 3 + 1, none⟩ (.int .i64 (xl.ed.del + 1))) bb o (E.ys a b)) := Lib.hid (hc.out.grown (E.grown_setCell wr g _ _) (fun e => hgb (by cases e; rfl)))
          have hS := Lib.hid hsn
          have hD := Lib.hid hd2
          clear hsn hd2 hM hlow hopn
          have x1 := hc2.out k hlt
          rw [e1] at x1
          go_wp2
          go_roundw
          case rel => exact ⟨k + 1, i + 1, jj, _, hlt, by go_num, by first | rfl | go_num, by first | rfl | go_num, h1, hj, hD, hE2, hM2, by rw [hS.out], Lib.hid (by rw [hS.out]), hv2, hc2, hb2⟩
          case measure => simp [intOf] <;> omega
        | false =>
          -- a deletion, a new edit
          rw [E.sstep_1] at hsn
          have hel : es.length ≤ 2000 := by have := hlow.1; rw [← hM.out] at this; simp at this; omega
          have u2 : IntKind.i64.wrap ((es.length : Int) + 1 - 1) = (es.length : Int) := by simp [IntKind.wrap, IntKind.bits, IntKind.signed]; omega
          have u3 : IntKind.i64.wrap (es.length : Int) = (es.length : Int) := by simp [IntKind.wrap, IntKind.bits, IntKind.signed]; omega
          have q4 : (0 : Int) ≤ (es.length : Int) := by omega
          have q5 : (es.length : Int) < (es.length : Int) + 1 := by omega
          have hS := Lib.hid hsn
          have hD := Lib.hid hd2
          have hM0 := hM
          clear hsn hd2 hM hlow hopn
          go_wp2_with (at_builtin; refine wpList_append_any _ rfl (.tmp 33) (.tmp 36) _ rfl w.heap.size 56 iE _ 3 40 Try.underlying53 hiE hE0 hE1 hE2' rfl (by decide) u5 _ _ rfl (hE.own.alloc (.cells #[.int .i64 i, .int .i64 0, .slice none 0 0] 56)) _ _ 1 1 [.int .i64 i, .int .i64 0, .slice none 0 0] rfl (reads_block wr [.int .i64 i, .int .i64 0, .slice none 0 0] 56 3 1 rfl) (by simp [Value.oneCell']) (by simp only [maxLen]; omega) (by omega) (by have := hb.size; simp; omega) ?_; intro v' W2 hown' hgrow hnew; obtain ⟨g, cap, rfl⟩ := ownsRow_succ hown'; have hEa := E.eds_push (e := ⟨i, 0, []⟩) (E.eds_grown hE (World.grownBy_alloc wr (.cells #[.int .i64 i, .int .i64 0, .slice none 0 0] 56) none)) (by decide) rfl hgrow hown'; obtain ⟨cd, csl, fd, fsl⟩ := E.eds_last hEa; have hba : Below w.heap.size w W2 := (hb.alloc hb.size (.cells #[.int .i64 i, .int .i64 0, .slice none 0 0] 56)).grown hgrow (by have := hb.size; simp; omega) (own_below hE.own (Nat.le_refl _)); have hva : bb < W2.heap.size ∧ ∀ g', E.Own (.slice (some ⟨g, 0, none⟩) (es.length + 1) cap) (es ++ [⟨⟨i, 0, []⟩, .slice none 0 0⟩]) g' → g' ≠ bb := (⟨(by have := hgrow.size; simp at this; omega), fun g' hg' => E.push_ne (hv.out (by omega)).2 hg' hnew (by simp; omega)⟩); have hca : E.Arr W2 bb o (E.ys a b) := (hc.out.grown (World.grownBy_alloc wr (.cells #[.int .i64 i, .int .i64 0, .slice none 0 0] 56) none) (by simp)).grown hgrow (fun e => (hv.out (by omega)).2 bb (.inl e.symm) rfl); have hgb : g ≠ bb := hva.2 g (.inl rfl); have hgw : w.heap.size ≤ g := (hEa.own.lt g rfl).1; have x1 := hca k hlt; rw [e1] at x1; have hE2 := E.eds_del (by decide : (56 : Nat) ≠ 3) rfl hEa 1; have hc2 : Hid (E.Arr (W2.setCell ⟨g, es.length * 3 + 1, none⟩ (.int .i64 1)) bb o (E.ys a b)) := Lib.hid (hca.grown (E.grown_setCell W2 g _ _) (fun e => hgb (by cases e; rfl))); have x2 := hc2.out k hlt; rw [e1] at x2)
          have hM2 : Hid ((es ++ [(⟨{ (⟨i, 0, []⟩ : E.Ed Int) with del := 1 }, .slice none 0 0⟩ : E.Es Int)]).map (·.ed) = (E.sst b ((E.ys a b).take (k + 1))).1) := Lib.hid (by rw [hS.out, ← hM0.out]; simp [E.modLast_snoc])
          have hb2 : Below w.heap.size w (W2.setCell ⟨g, es.length * 3 + 1, none⟩ (.int .i64 1)) := hba.setCell hgw _
          have hv2 : Hid (0 < (E.ys a b).length → bb < (W2.setCell ⟨g, es.length * 3 + 1, none⟩ (.int .i64 1)).heap.size ∧ ∀ g', E.Own (.slice (some ⟨g, 0, none⟩) (es.length + 1) cap) (es ++ [(⟨{ (⟨i, 0, []⟩ : E.Ed Int) with del := 1 }, .slice none 0 0⟩ : E.Es Int)]) g' → g' ≠ bb) := Lib.hid (fun h => ⟨by simpa using hva.1, fun g' hg' => hva.2 g' (E.own_upd hg')⟩)
          go_roundw
          case rel => exact ⟨k + 1, i + 1, jj, _, hlt, by go_num, by first | rfl | go_num, by first | rfl | go_num, h1, hj, hD, hE2, hM2, by rw [hS.out], Lib.hid (by rw [hS.out]), hv2, hc2, hb2⟩
          case measure => simp [intOf] <;> omega
      · cases op with
        | true =>
          -- an insertion, an open edit
          rw [E.sstep_2] at hsn
          obtain ⟨b0, o0, rfl, hb0, hcb⟩ := (HB.out.below hb hB).num (by omega)
          have y0 := hcb jj h2
          rw [← getD_at (d := default) h2] at y0
          have q6 : (0 : Int) ≤ (jj : Int) := by omega
          have q7 : (jj : Int) < (b.length : Int) := by omega
          have hb0w : b0 < w.heap.size := by omega
          have u1 : IntKind.i64.wrap ((jj : Int) + 1) = (jj : Int) + 1 := by simp [IntKind.wrap, IntKind.bits, IntKind.signed]; omega
          clear hcb
          generalize b.getD jj default = z at hsn y0
          obtain ⟨el, xl, rfl⟩ : ∃ l y, es = l ++ [y] := by
            rcases List.eq_nil_or_concat es with rfl | ⟨l, y, e⟩
            · exact absurd hM.out.symm (hopn rfl)
            · exact ⟨l, y, by simpa using e⟩
          obtain ⟨g, cap, rfl⟩ := ownsRow_succ (show wr.ownsRow w.heap.size 56 3 u5 (el.length + 1) _ from by have := hE.own; rwa [show (el ++ [xl]).length = el.length + 1 by simp] at this)
          obtain ⟨cd, csl, fd, fsl⟩ := E.eds_last hE
          have hxl := hlow.2 xl.ed (by rw [← hM.out]; simp)
          have hel : el.length ≤ 2000 := by have := hlow.1; rw [← hM.out] at this; simp at this; omega
          have u2 : IntKind.i64.wrap ((el.length : Int) + 1 - 1) = (el.length : Int) := by simp [IntKind.wrap, IntKind.bits, IntKind.signed]; omega
          have u3 : IntKind.i64.wrap (el.length : Int) = (el.length : Int) := by simp [IntKind.wrap, IntKind.bits, IntKind.signed]; omega
          have q4 : (0 : Int) ≤ (el.length : Int) := by omega
          have q5 : (el.length : Int) < (el.length : Int) + 1 := by omega
          have hgb : g ≠ bb := (hv.out (by omega)).2 g (.inl rfl)
          have hgw : w.heap.size ≤ g := (hE.own.lt g rfl).1
          have hEx : E.Eds 56 3 1 E.cv w.heap.size (wr.alloc (.cells #[.int .i64 z] 3)).drew (.slice (some ⟨g, 0, none⟩) (el.length + 1) cap) (el ++ [xl]) := E.eds_grown hE (below_grown (below_drewN ((Below.refl _ wr).alloc (Nat.le_refl _) (.cells #[.int .i64 z] 3)) 1))
          have hxi := hEx.ins xl (by simp)
          have csl2 := (World.cell?_alloc_lt wr (.cells #[.int .i64 z] 3) ⟨g, el.length * 3 + 2, none⟩ (hE.own.lt g rfl).2).trans csl
          have x1 := hc.out k hlt
          rw [e1] at x1
          have hS := Lib.hid hsn
          have hD := Lib.hid hd2
          have hM0 := hM
          clear hsn hd2 hM hlow hopn
          go_wp2
          go_region_law (refine step_append_any _ rfl (.tmp 62) (.tmp 67) 50 rfl w.heap.size 3 i0 _ 1 8 Try.underlying50 hi0 hz0 hz1 hz2 rfl (by decide) xl.sl _ _ rfl hxi _ _ 1 1 [.int .i64 z] rfl (reads_new wr [.int .i64 z] 3) (by simp [Value.oneCell']) (by simp only [maxLen]; omega) (by omega) (by have := hb.size; simp; omega) ?_; intro u W3 hown3 hgrow3 hnew3; obtain ⟨gg, cap', rfl⟩ := ownsRow_succ hown3; have hE2 := E.eds_ins (more := [z]) (by decide : (56 : Nat) ≠ 3) rfl hEx hgrow3 (by simpa [E.cv] using hown3) hnew3; have hgx : W3.heap[g]? = (wr.alloc (.cells #[.int .i64 z] 3)).drew.heap[g]? := hgrow3.block g (hEx.own.lt g rfl).2 (fun e => E.eds_apart hEx (by decide) (by simp) rfl e.symm); have c3 := (World.cell?_of_block (a := ⟨g, el.length * 3 + 2, none⟩) hgx).trans (E.eds_last hEx).2.1; have f3 := (World.frozen?_of_block (a := ⟨g, el.length * 3 + 2, none⟩) hgx).trans (E.eds_last hEx).2.2.2)
          all_goals
            have hb2 : Below w.heap.size w (W3.setCell ⟨g, el.length * 3 + 2, none⟩ (.slice (some ⟨gg, 0, none⟩) (xl.ed.ins.length + 1) cap')) := ((show Below w.heap.size w (wr.alloc (.cells #[.int .i64 z] 3)).drew from below_drewN (hb.alloc hb.size _) 1).grown hgrow3 (by have := hb.size; simp; omega) (own_below hxi (Nat.le_refl _))).setCell hgw _
            have hc2 : Hid (E.Arr (W3.setCell ⟨g, el.length * 3 + 2, none⟩ (.slice (some ⟨gg, 0, none⟩) (xl.ed.ins.length + 1) cap')) bb o (E.ys a b)) := Lib.hid (((show E.Arr (wr.alloc (.cells #[.int .i64 z] 3)).drew bb o (E.ys a b) from (show E.Arr (wr.alloc (.cells #[.int .i64 z] 3)) bb o (E.ys a b) from hc.out.grown (World.grownBy_alloc wr (.cells #[.int .i64 z] 3) none) (by simp))).grown hgrow3 (fun e => (hv.out (by omega)).2 bb (.inr ⟨xl, by simp, e.symm⟩) rfl)).grown (E.grown_setCell W3 g _ _) (fun e => hgb (by cases e; rfl)))
            have hv2 : Hid (0 < (E.ys a b).length → bb < (W3.setCell ⟨g, el.length * 3 + 2, none⟩ (.slice (some ⟨gg, 0, none⟩) (xl.ed.ins.length + 1) cap')).heap.size ∧ ∀ g', E.Own (.slice (some ⟨g, 0, none⟩) (el.length + 1) cap) (el ++ [(⟨{ xl.ed with ins := xl.ed.ins ++ [z] }, .slice (some ⟨gg, 0, none⟩) (xl.ed.ins.length + 1) cap'⟩ : E.Es Int)]) g' → g' ≠ bb) := Lib.hid (fun h => ⟨by have := hgrow3.size; have := (hv.out (by omega)).1; simp at *; omega, fun g' hg' => E.ins_ne (hv.out (by omega)).2 hg' hnew3 (by have := (hv.out (by omega)).1; simp; omega)⟩)
            have hM2 : Hid ((el ++ [(⟨{ xl.ed with ins := xl.ed.ins ++ [z] }, .slice (some ⟨gg, 0, none⟩) (xl.ed.ins.length + 1) cap'⟩ : E.Es Int)]).map (·.ed) = (E.sst b ((E.ys a b).take (k + 1))).1) := Lib.hid (by rw [hS.out, ← hM0.out]; simp [E.modLast_snoc])
            have x3 := hc2.out k hlt
            rw [e1] at x3
            go_wp2
            go_roundw
            case rel => exact ⟨k + 1, i, jj + 1, _, hlt, by go_num, by first | rfl | go_num, by first | rfl | go_num, hi, h2, hD, hE2, hM2, by rw [hS.out], Lib.hid (by rw [hS.out]), hv2, hc2, hb2⟩
            case measure => simp [intOf] <;> omega
        | false =>
          -- an insertion, a new edit
          rw [E.sstep_2] at hsn
          obtain ⟨b0, o0, rfl, hb0, hcb⟩ := (HB.out.below hb hB).num (by omega)
          have y0 := hcb jj h2
          rw [← getD_at (d := default) h2] at y0
          have q6 : (0 : Int) ≤ (jj : Int) := by omega
          have q7 : (jj : Int) < (b.length : Int) := by omega
          have hb0w : b0 < w.heap.size := by omega
          have u1 : IntKind.i64.wrap ((jj : Int) + 1) = (jj : Int) + 1 := by simp [IntKind.wrap, IntKind.bits, IntKind.signed]; omega
          clear hcb
          generalize b.getD jj default = z at hsn y0
          have hel : es.length ≤ 2000 := by have := hlow.1; rw [← hM.out] at this; simp at this; omega
          have u2 : IntKind.i64.wrap ((es.length : Int) + 1 - 1) = (es.length : Int) := by simp [IntKind.wrap, IntKind.bits, IntKind.signed]; omega
          have u3 : IntKind.i64.wrap (es.length : Int) = (es.length : Int) := by simp [IntKind.wrap, IntKind.bits, IntKind.signed]; omega
          have q4 : (0 : Int) ≤ (es.length : Int) := by omega
          have q5 : (es.length : Int) < (es.length : Int) + 1 := by omega
          have x1 := hc.out k hlt
          rw [e1] at x1
          have hS := Lib.hid hsn
          have hD := Lib.hid hd2
          have hM0 := hM
          clear hsn hd2 hM hlow hopn
          go_wp2_with (at_builtin; refine wpList_append_any _ rfl (.tmp 33) (.tmp 36) _ rfl w.heap.size 56 iE _ 3 40 Try.underlying53 hiE hE0 hE1 hE2' rfl (by decide) u5 _ _ rfl (hE.own.alloc (.cells #[.int .i64 i, .int .i64 0, .slice none 0 0] 56)) _ _ 1 1 [.int .i64 i, .int .i64 0, .slice none 0 0] rfl (reads_block wr [.int .i64 i, .int .i64 0, .slice none 0 0] 56 3 1 rfl) (by simp [Value.oneCell']) (by simp only [maxLen]; omega) (by omega) (by have := hb.size; simp; omega) ?_; intro v' W2 hown' hgrow hnew; obtain ⟨g, cap, rfl⟩ := ownsRow_succ hown'; have hEa := E.eds_push (e := ⟨i, 0, []⟩) (E.eds_grown hE (World.grownBy_alloc wr (.cells #[.int .i64 i, .int .i64 0, .slice none 0 0] 56) none)) (by decide) rfl hgrow hown'; obtain ⟨cd, csl, fd, fsl⟩ := E.eds_last hEa; have hba : Below w.heap.size w W2 := (hb.alloc hb.size (.cells #[.int .i64 i, .int .i64 0, .slice none 0 0] 56)).grown hgrow (by have := hb.size; simp; omega) (own_below hE.own (Nat.le_refl _)); have hva : bb < W2.heap.size ∧ ∀ g', E.Own (.slice (some ⟨g, 0, none⟩) (es.length + 1) cap) (es ++ [⟨⟨i, 0, []⟩, .slice none 0 0⟩]) g' → g' ≠ bb := (⟨(by have := hgrow.size; simp at this; omega), fun g' hg' => E.push_ne (hv.out (by omega)).2 hg' hnew (by simp; omega)⟩); have hca : E.Arr W2 bb o (E.ys a b) := (hc.out.grown (World.grownBy_alloc wr (.cells #[.int .i64 i, .int .i64 0, .slice none 0 0] 56) none) (by simp)).grown hgrow (fun e => (hv.out (by omega)).2 bb (.inl e.symm) rfl); have hgb : g ≠ bb := hva.2 g (.inl rfl); have hgw : w.heap.size ≤ g := (hEa.own.lt g rfl).1; have x1a := hca k hlt; rw [e1] at x1a; have y1 : W2.cell? ⟨b0, o0 + jj, none⟩ = some (.int .i64 z) := ((hba.cell (p := ⟨b0, o0 + jj, none⟩) hb0w).trans ((hb.cell (p := ⟨b0, o0 + jj, none⟩) hb0w).symm.trans y0)); have hEx : E.Eds 56 3 1 E.cv w.heap.size (W2.alloc (.cells #[.int .i64 z] 3)).drew (.slice (some ⟨g, 0, none⟩) (es.length + 1) cap) (es ++ [⟨⟨i, 0, []⟩, .slice none 0 0⟩]) := E.eds_grown hEa (below_grown (below_drewN ((Below.refl _ W2).alloc (Nat.le_refl _) (.cells #[.int .i64 z] 3)) 1)); have csl2 := (World.cell?_alloc_lt W2 (.cells #[.int .i64 z] 3) ⟨g, es.length * 3 + 2, none⟩ (hEa.own.lt g rfl).2).trans csl)
          go_region_law (refine step_append_any _ rfl (.tmp 62) (.tmp 67) 50 rfl w.heap.size 3 i0 _ 1 8 Try.underlying50 hi0 hz0 hz1 hz2 rfl (by decide) (.slice none 0 0) _ _ rfl (World.ownsRow_nil _ _ _ _) _ _ 1 1 [.int .i64 z] rfl (reads_new W2 [.int .i64 z] 3) (by simp [Value.oneCell']) (by simp only [maxLen]; omega) (by omega) (by have := hba.size; simp; omega) ?_; intro u W3 hown3 hgrow3 hnew3; obtain ⟨gg, cap', rfl⟩ := ownsRow_succ hown3; have hE2 := E.eds_ins (more := [z]) (by decide : (56 : Nat) ≠ 3) rfl hEx hgrow3 (by simpa [E.cv] using hown3) hnew3; have hgx : W3.heap[g]? = (W2.alloc (.cells #[.int .i64 z] 3)).drew.heap[g]? := hgrow3.block g (hEx.own.lt g rfl).2 (fun e => by cases e); have c3 := (World.cell?_of_block (a := ⟨g, es.length * 3 + 2, none⟩) hgx).trans (E.eds_last hEx).2.1; have f3 := (World.frozen?_of_block (a := ⟨g, es.length * 3 + 2, none⟩) hgx).trans (E.eds_last hEx).2.2.2)
          all_goals
            have hb2 : Below w.heap.size w (W3.setCell ⟨g, es.length * 3 + 2, none⟩ (.slice (some ⟨gg, 0, none⟩) (0 + 1) cap')) := ((show Below w.heap.size w (W2.alloc (.cells #[.int .i64 z] 3)).drew from below_drewN (hba.alloc hba.size _) 1).grown hgrow3 (by have := hba.size; simp; omega) (own_below (World.ownsRow_nil (W2.alloc (.cells #[.int .i64 z] 3)).drew w.heap.size 3 1) (Nat.le_refl _))).setCell hgw _
            have hc2 : Hid (E.Arr (W3.setCell ⟨g, es.length * 3 + 2, none⟩ (.slice (some ⟨gg, 0, none⟩) (0 + 1) cap')) bb o (E.ys a b)) := Lib.hid (((show E.Arr (W2.alloc (.cells #[.int .i64 z] 3)).drew bb o (E.ys a b) from (show E.Arr (W2.alloc (.cells #[.int .i64 z] 3)) bb o (E.ys a b) from hca.grown (World.grownBy_alloc W2 (.cells #[.int .i64 z] 3) none) (by simp))).grown hgrow3 (fun e => hva.2 bb (.inr ⟨⟨⟨i, 0, []⟩, .slice none 0 0⟩, by simp, e.symm⟩) rfl)).grown (E.grown_setCell W3 g _ _) (fun e => hgb (by cases e; rfl)))
            have hv2 : Hid (0 < (E.ys a b).length → bb < (W3.setCell ⟨g, es.length * 3 + 2, none⟩ (.slice (some ⟨gg, 0, none⟩) (0 + 1) cap')).heap.size ∧ ∀ g', E.Own (.slice (some ⟨g, 0, none⟩) (es.length + 1) cap) (es ++ [(⟨{ (⟨i, 0, []⟩ : E.Ed Int) with ins := (⟨i, 0, []⟩ : E.Ed Int).ins ++ [z] }, .slice (some ⟨gg, 0, none⟩) (0 + 1) cap'⟩ : E.Es Int)]) g' → g' ≠ bb) := Lib.hid (fun h => ⟨by have := hgrow3.size; have := hva.1; simp at *; omega, fun g' hg' => E.ins_ne hva.2 hg' hnew3 (by have := hva.1; simp; omega)⟩)
            have hM2 : Hid ((es ++ [(⟨{ (⟨i, 0, []⟩ : E.Ed Int) with ins := (⟨i, 0, []⟩ : E.Ed Int).ins ++ [z] }, .slice (some ⟨gg, 0, none⟩) (0 + 1) cap'⟩ : E.Es Int)]).map (·.ed) = (E.sst b ((E.ys a b).take (k + 1))).1) := Lib.hid (by rw [hS.out, ← hM0.out]; simp [E.modLast_snoc])
            have x3 := hc2.out k hlt
            rw [e1] at x3
            go_wp2
            go_roundw
            case rel => exact ⟨k + 1, i, jj + 1, _, hlt, by go_num, by first | rfl | go_num, by first | rfl | go_num, hi, h2, hD, hE2, hM2, by rw [hS.out], Lib.hid (by rw [hS.out]), hv2, hc2, hb2⟩
            case measure => simp [intOf] <;> omega
    · obtain rfl : k = (E.ys a b).length := by omega
      rw [List.take_length, HSC.out] at hM
      have HE := Lib.hid hE
      have HF := Lib.hid hM.out
      clear hE hM
      go_wp2
      go_ret
      exact ⟨_, es, rfl, HE.out, HF.out, hb⟩
end Go.Proofs.Yteakiielcmgkeaa
