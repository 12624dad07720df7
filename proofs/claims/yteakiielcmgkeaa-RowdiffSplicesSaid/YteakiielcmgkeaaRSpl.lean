/-
  The walks of layer 17: the reference's Splices. By an AI agent.
-/
import Derived.Test.YteakiielcmgkeaaNm
import Derived.Test.YteakiielcmgkeaaSpl
import Derived.Test.YteakiielcmgkeaaRApp
namespace Go.Proofs.Yteakiielcmgkeaa
set_option linter.unusedSimpArgs false
set_option linter.unusedVariables false
open Go.RowKit Go.Deep Go.Joins

namespace R
/-- The number of a glyph, as an integer. -/
def ren (all : List G) (g : G) : Int := (num all g : Int)
theorem script_ren (X Y : List G) : E.script (X.map (ren (X ++ Y))) (Y.map (ren (X ++ Y))) = (E.script X Y).map (E.Ed.ren (ren (X ++ Y))) :=
  E.script_map _ _ _ (fun x hx y _ h => num_inj (X ++ Y) (by simp [hx]) (by unfold ren at h; omega))
theorem ofEd_get (l : List (E.Ed G)) : ∀ (m : Int) (k : Nat) (h : k < l.length), (⟨l[k].at_ + (m + moved (l.take k)), l[k].del, l[k].ins⟩ : Ch G) ∈ ofEd m l := by
  induction l with
  | nil => intro m k h; exact absurd h (by simp)
  | cons e l ih =>
    intro m k h
    cases k with
    | zero => simp [ofEd, moved]
    | succ k =>
      have := ih (m + (e.ins.length - e.del)) k (by simpa using h)
      simp only [ofEd, List.mem_cons, List.getElem_cons_succ, List.take_succ_cons, moved, List.map_cons, List.sum_cons] at this ⊢
      right
      rw [Int.add_assoc m] at this
      exact this
/-- Where the k-th edit inserts, and what. -/
theorem ins_at (X Y : List G) {k : Nat} (h : k < (E.script X Y).length) : ∃ p : Nat, (E.script X Y)[k].at_ + moved ((E.script X Y).take k) = p ∧ p + (E.script X Y)[k].ins.length ≤ Y.length ∧ (E.script X Y)[k].ins = (Y.drop p).take (E.script X Y)[k].ins.length := by
  have h1 := ofEd_ins X Y (E.script X Y) 0 [] Y 0 (Nat.zero_le _) (by simp) (E.app_script _ _) rfl _ (ofEd_get (E.script X Y) 0 k h)
  simp only [Int.zero_add] at h1
  obtain ⟨h1, h2, h3⟩ := h1
  refine ⟨((E.script X Y)[k].at_ + moved ((E.script X Y).take k)).toNat, by omega, by omega, h2⟩
theorem splices_ref (a b : List G) : splices bl a b = if trimEnd bl a = trimEnd bl b then [] else if cost [(⟨0, ((trimEnd bl a).length : Nat), trimEnd bl b⟩ : Ch G)] < cost (ofEd 0 (E.script (trimEnd bl a) (trimEnd bl b))) then [⟨0, ((trimEnd bl a).length : Nat), trimEnd bl b⟩] else ofEd 0 (E.script (trimEnd bl a) (trimEnd bl b)) := by
  rw [← refSplices_eq]
  unfold refSplices
  rw [ofRef_script]
  rfl
end R
/-- An edit of the renamed rows, beside the one of the rows. -/
theorem ren_at {X Y : List R.G} {es : List (E.Es Int)} (h : es.map (·.ed) = (E.script X Y).map (E.Ed.ren (R.ren (X ++ Y)))) : es.length = (E.script X Y).length ∧ ∀ k (h1 : k < es.length) (h2 : k < (E.script X Y).length), es[k].ed.at_ = (E.script X Y)[k].at_ ∧ es[k].ed.del = (E.script X Y)[k].del ∧ es[k].ed.ins.length = (E.script X Y)[k].ins.length := by
  have hl : es.length = (E.script X Y).length := by have := congrArg List.length h; simpa using this
  refine ⟨hl, fun k h1 h2 => ?_⟩
  have e : es[k].ed = (E.script X Y)[k].ren (R.ren (X ++ Y)) := by
    have := congrArg (fun l => l[k]?) h
    simpa [h1, h2] using this
  rw [e]
  simp [E.Ed.ren]
set_option maxRecDepth 100000 in
set_option maxHeartbeats 16000000 in
theorem refsplices_any (A1 A2 : Option Addr) (c1 c2 B : Nat) (row : Int) (a b : List R.G) (w : World) (ha : Reads w B 3 A1 a.length (R.gcs a)) (hb : Reads w B 3 A2 b.length (R.gcs b)) (hB : B ≤ w.heap.size) (hla : a.length ≤ 100) (hlb : b.length ≤ 100) (hca : a.length ≤ c1) (hcb : b.length ≤ c2) :
    Calls Try.prog 15 #[.int .i64 row, .slice A1 a.length c1, .slice A2 b.length c2] w fun e w' => R.SOut row (R.splices R.bl a b) w w' e := by
  obtain ⟨iC, hiC, hC0, hC1, hC2⟩ := info_parts infoC
  obtain ⟨iG, hiG, hG0, hG1, hG2⟩ := info_parts infoG
  have T1 := Lib.hid (reftrim_any A1 c1 B a w ha hB (by omega) hca)
  have HA := Lib.hid ha
  have HB := Lib.hid hb
  have la := trim_len a
  have lb := trim_len b
  clear ha hb
  go_enter Try.func15, Try.ntmps15
  go_wp2_with fail
  refine T1.out.mono ?_
  rintro e w1 ⟨v1, rfl, own1, b1⟩
  obtain ⟨A3, c3, rfl, r3, hc3⟩ := own_reads_cap own1
  have R3 := Lib.hid r3
  have HB1 := Lib.hid b1
  have T2 := Lib.hid (reftrim_any A2 c2 B b w1 (HB.out.below b1 hB) (Nat.le_trans hB b1.size) (by omega) hcb)
  have hs1 := b1.size
  clear T1 own1 r3 b1
  go_wp2_with fail
  refine T2.out.mono ?_
  rintro e w2 ⟨v2, rfl, own2, b2⟩
  obtain ⟨A4, c4, rfl, r4, hc4⟩ := own_reads_cap own2
  have R4 := Lib.hid r4
  have R32 := Lib.hid ((R3.out.below b2 (Nat.le_refl _)).more b2.size)
  have HB2 := Lib.hid (HB1.out.trans (b2.mono hs1))
  have hs2 := b2.size
  clear T2 own2 r4 b2 R3 HB1
  obtain ⟨X, hX⟩ : ∃ X, R.trimEnd R.bl a = X := ⟨_, rfl⟩
  obtain ⟨Y, hY⟩ : ∃ Y, R.trimEnd R.bl b = Y := ⟨_, rfl⟩
  have SP := Lib.hid (R.splices_ref a b)
  rw [hX, hY] at SP
  have HX := Lib.hid hX
  have HY := Lib.hid hY
  rw [hX] at la R32 hc3 ⊢
  rw [hY] at lb R4 hc4 ⊢
  clear hX hY
  have SG := Lib.hid (sameglyphs_any A3 A4 c3 c4 w2.heap.size X Y w2 R32.out R4.out (by omega) (by omega))
  have NU := Lib.hid (fun n => numbers_any A3 A4 c3 c4 w2.heap.size X Y (w2.drewN n) (R32.out.drewN n) (R4.out.drewN n) (Nat.le_refl _) (by omega) (by omega))
  by_cases hXY : X = Y
  · rw [decide_eq_true hXY] at SG
    have SP2 : Hid (R.splices R.bl a b = []) := Lib.hid (by rw [SP.out, if_pos hXY])
    clear hXY SP NU
    go_wp2_with fail
    refine SG.out.mono ?_
    rintro e w3 ⟨rfl, n, rfl⟩
    have hb3 := below_drewN HB2.out n
    have HB3 := Lib.hid (hb3.alloc hb3.size (.cells #[] 29))
    have OW := Lib.hid (World.ownsRow_lit (base := w.heap.size) (e := 29) (size := 6) (w2.drewN n) #[] 0 hb3.size (by decide) rfl)
    clear hb3
    go_wp2_with fail
    go_ret
    exact ⟨_, [], rfl, ⟨by simpa [R.ccs] using OW.out, fun x hx => by cases hx⟩, by rw [SP2.out]; rfl, HB3.out⟩
  · rw [decide_eq_false hXY] at SG
    rw [if_neg hXY] at SP
    clear hXY
    go_wp2_with fail
    refine SG.out.mono ?_
    rintro e w3 ⟨rfl, n, rfl⟩
    have NU' := Lib.hid (NU.out n)
    clear NU SG
    go_wp2_with fail
    refine NU'.out.mono ?_
    rintro e w4 ⟨A5, c5, A6, c6, rfl, r5, r6, b4⟩
    have SC := refscript_any A5 A6 c5 c6 w4.heap.size (X.map (R.ren (X ++ Y))) (Y.map (R.ren (X ++ Y))) w4 (by rw [List.length_map]; exact r5) (by rw [List.length_map]; exact r6) (Nat.le_refl _) (by rw [List.length_map]; omega) (by rw [List.length_map]; omega)
    rw [List.length_map, List.length_map, R.script_ren] at SC
    have SC := Lib.hid SC
    have HB4 := Lib.hid ((below_drewN HB2.out n).trans (b4.mono (Nat.le_trans hs1 hs2)))
    have hs4 : w2.heap.size ≤ w4.heap.size := b4.size
    have R44 := Lib.hid (((R4.out.drewN n).below b4 (Nat.le_refl _)).more hs4)
    clear NU' r5 r6 b4 R4 R32 HB2
    go_wp2_with fail
    refine SC.out.mono ?_
    rintro e w5 ⟨v5, es, rfl, hes, hed, b5⟩
    obtain ⟨A7, c7, rfl, rd⟩ := hes.rdg
    have hel := (ren_at hed).1
    have EAT := Lib.hid (ren_at hed).2
    have RD := Lib.hid rd
    have LOW := Lib.hid (script_lowG (a := X) (b := Y) (by omega) (by omega))
    have HB5 := Lib.hid (HB4.out.trans (b5.mono (Nat.le_trans hs1 (Nat.le_trans hs2 hs4))))
    have hes200 : es.length ≤ 200 := by rw [hel]; exact LOW.out.1
    have R45 := Lib.hid ((R44.out.below b5 (Nat.le_refl _)).more b5.size)
    have hNs : w.heap.size ≤ w5.heap.size := HB5.out.size
    have HEL := Lib.hid hel
    have RA := Lib.hid (HA.out.below HB5.out hB)
    have RB := Lib.hid (HB.out.below HB5.out hB)
    obtain ⟨N, hN⟩ : ∃ N, w5.heap.size = N := ⟨_, rfl⟩
    have HN5 := Lib.hid hN
    have OW0 := Lib.hid (World.ownsRow_lit (base := w5.heap.size) (e := 29) (size := 6) w5 #[] 0 (Nat.le_refl _) (by decide) rfl)
    have HB6 : Hid (Below w5.heap.size w5 (w5.alloc (.cells #[] 29))) := Lib.hid ((Below.refl _ _).alloc (Nat.le_refl _) _)
    have hBN : B ≤ w5.heap.size := Nat.le_trans hB hNs
    rw [hN] at RD R45 OW0 HB6 hNs hBN
    clear SC hes rd hed hel b5 HB4 R44 HA HB hN
    go_wp2_with fail
    go_loopw [12, 13, 14] (fun v12 v13 v14 wr => ∃ (k : Nat) (xs : List R.Cs), k ≤ es.length ∧ v14 = .int .i64 k ∧ v13 = .int .i64 (R.moved ((E.script X Y).take k)) ∧ xs.length = k ∧ Hid (xs.map (·.c) = (R.ofEd 0 ((E.script X Y).take k)).map (R.Cx.of row)) ∧ Hid (R.Own N wr v12 xs) ∧ Hid (Below N w5 wr)) (fun _ _ v _ => es.length - (intOf v).toNat)
    case atStart => exact ⟨0, [], Nat.zero_le _, rfl, rfl, rfl, Lib.hid rfl, Lib.hid ⟨by rw [HN5.out]; simpa [R.ccs] using OW0.out, fun x hx => by cases hx⟩, HB6⟩
    case round =>
      clear OW0 HB6
      obtain ⟨k, xs, hk, rfl, rfl, hxl0, hxs, hown, hbl⟩ := hrel
      have HXL := Lib.hid hxl0
      have hxl1 : xs.length ≤ 200 := by omega
      clear hxl0
      obtain ⟨vo, hvo⟩ : ∃ v, u12 = v := ⟨_, rfl⟩
      rw [hvo] at hown ⊢
      clear hvo
      have hNr : N ≤ wr.heap.size := HN5.out ▸ hbl.out.size
      by_cases hlt : k < es.length
      · obtain ⟨b7, o7, rfl, hb7, h7⟩ := RD.out.at_ (by omega)
        obtain ⟨z0, z1, z2⟩ := h7 k hlt
        obtain ⟨A5', c5', s5, _⟩ := RD.out.ins es[k] (List.getElem_mem hlt)
        have hls : k < (E.script X Y).length := by rw [← HEL.out]; exact hlt
        obtain ⟨e1, e2, e3⟩ := EAT.out k hlt hls
        rw [s5, e3] at z2
        rw [e1] at z0
        rw [e2] at z1
        obtain ⟨p, hp1, hp2, hp3⟩ := R.ins_at X Y hls
        have lo := LOW.out.2 _ (List.getElem_mem hls)
        have MV := Lib.hid (R.moved_snoc ((E.script X Y).take k) (E.script X Y)[k])
        have OF := Lib.hid (R.ofEd_snoc ((E.script X Y).take k) (E.script X Y)[k] 0)
        have TK := Lib.hid (List.take_succ_eq_append_getElem hls)
        have hmv : -(k * 1000 : Nat) ≤ R.moved ((E.script X Y).take k) ∧ R.moved ((E.script X Y).take k) ≤ (k * 1000 : Nat) := R.moved_bd LOW.out.2 k
        have q1 : (0 : Int) ≤ (k : Int) := by omega
        have q2 : (k : Int) < (es.length : Int) := by omega
        have HCX : Hid (R.Cx.of row ⟨(E.script X Y)[k].at_ + (0 + R.moved ((E.script X Y).take k)), (E.script X Y)[k].del, (E.script X Y)[k].ins⟩ = ⟨3, row, p, (E.script X Y)[k].del, 0, (E.script X Y)[k].ins⟩) := Lib.hid (by simp [R.Cx.of, hp1])
        clear h7 s5 e1 e2 e3 EAT
        generalize (E.script X Y)[k] = ee at *
        obtain ⟨eat, edel, ei⟩ := ee
        simp only at z0 z1 z2 lo HCX MV OF hp1 hp2 hp3
        generalize R.moved ((E.script X Y).take k) = mv at *
        have u1 : IntKind.i64.wrap (eat + mv) = (p : Int) := by rw [hp1]; simp [IntKind.wrap, IntKind.bits, IntKind.signed]; omega
        have hp4 : p ≤ 1000 := by omega
        have CE : Hid (∀ W, Below N w5 W → W.cell? ⟨b7, o7 + k * 3, none⟩ = some (.int .i64 eat) ∧ W.cell? ⟨b7, o7 + k * 3 + 1, none⟩ = some (.int .i64 edel) ∧ W.cell? ⟨b7, o7 + k * 3 + 2, none⟩ = some (.slice A5' ei.length c5')) := Lib.hid (fun W h => ⟨(h.cell (p := ⟨b7, _, none⟩) hb7).trans z0, (h.cell (p := ⟨b7, _, none⟩) hb7).trans z1, (h.cell (p := ⟨b7, _, none⟩) hb7).trans z2⟩)
        obtain ⟨A8, sl8, rd8⟩ := slice_mid A4 Y (c := c4) (m := p) (n := p + ei.length) (by omega) hp2 hc4
        rw [show p + ei.length - p = ei.length by omega] at sl8 rd8
        have sl8' : ∀ w' : World, (Instr.sliceAt 22 (.slice A4 Y.length c4) (some (.int .i64 (p : Int))) (some (.int .i64 ((p : Int) + (ei.length : Int)))) none).run Try.prog w' = .ok (.slice A8 ei.length (c4 - p)) w' := fun w' => by have := sl8 w'; rw [Int.natCast_add] at this; exact this
        rw [← hp3] at rd8
        have RD8 := Lib.hid rd8
        have HP3 := Lib.hid hp3
        have HP1 := Lib.hid hp1
        have hei : ei.length ≤ 200 := lo.2.2.2
        obtain ⟨x0, x1, x2⟩ := CE.out wr hbl.out
        have GO := Lib.hid (World.ownsRow_lit (base := wr.heap.size) (e := 33) (size := 3) wr #[] 0 (Nat.le_refl _) (by decide) rfl)
        have HBa := Lib.hid (hbl.out.alloc hNr (.cells #[] 33))
        have HOa := Lib.hid (hown.out.below ((Below.refl wr.heap.size wr).alloc (Nat.le_refl _) (.cells #[] 33)))
        have hbx : Hid (Below wr.heap.size wr (wr.alloc (.cells #[] 33))) := Lib.hid ((Below.refl _ _).alloc (Nat.le_refl _) _)
        obtain ⟨x3, x4, x5⟩ := CE.out _ HBa.out
        have u3 : IntKind.i64.wrap (mv + (ei.length : Int)) = mv + (ei.length : Int) := by simp [IntKind.wrap, IntKind.bits, IntKind.signed]; omega
        have u4 : IntKind.i64.wrap (mv + (ei.length : Int) - edel) = mv + (ei.length : Int) - edel := by simp [IntKind.wrap, IntKind.bits, IntKind.signed]; omega
        clear z0 z1 z2 sl8 rd8 hp3 hp1
        go_wp2_with (first
          | (at_builtin; refine wpList_append_any _ rfl (.tmp 49) (.tmp 60) 22 rfl wr.heap.size 33 iG _ 3 32 Try.underlying22 hiG hG0 hG1 hG2 rfl (by decide) (.slice (some ⟨wr.heap.size, 0, none⟩) 0 0) 0 [] rfl GO.out N A8 ei.length (c4 - p) (R.gcs ei) rfl (RD8.out _ _ (R45.out.below HBa.out (Nat.le_refl _))) (R.gcs_one _) (by simp only [maxLen]; omega) (by omega) hbx.out.size ?_; intro v6 W6 hown6 hg6 hn6; (have OG6 : Hid (W6.ownsRow wr.heap.size 33 3 v6 ei.length (R.gcs ei)) := Lib.hid (by simpa using hown6)); (have b6 := hbx.out.grown hg6 hbx.out.size (own_below GO.out (Nat.le_refl _))); (have HB6 := Lib.hid (hbl.out.trans (b6.mono hNr))); (have HO6 := Lib.hid (hown.out.below b6)); (have hN6 : N ≤ W6.heap.size := Nat.le_trans hNr b6.size); (clear x0 x1 x2 x3 x4 x5); (obtain ⟨y0, y1, y2⟩ := CE.out _ HB6.out); (obtain ⟨A9, c9, rfl, _, _⟩ := own_reads_cap OG6.out); (clear hown6 hg6 hn6 b6 GO HBa HOa hbx hown hbl RD8))
          | (at_builtin; refine wpList_append_any _ rfl (.tmp 62) (.tmp 72) 26 rfl N 29 iC _ 6 64 Try.underlying26 hiC hC0 hC1 hC2 rfl (by decide) vo _ _ rfl (HO6.out.row.alloc _) _ (some ⟨W6.heap.size, 0, none⟩) 1 1 [.int .i64 3, .int .i64 row, .int .i64 (p : Int), .int .i64 edel, .int .i64 0, .slice A9 ei.length c9] rfl (reads_block1 W6 [.int .i64 3, .int .i64 row, .int .i64 (p : Int), .int .i64 edel, .int .i64 0, .slice A9 ei.length c9] 29 6 rfl) (by simp [Value.oneCell']) (by simp only [maxLen]; omega) (by omega) (Nat.le_trans hN6 (by simp)) ?_; intro v7 W7 hown7 hg7 hn7; (have BA : Below W6.heap.size W6 (W6.alloc (.cells #[.int .i64 3, .int .i64 row, .int .i64 (p : Int), .int .i64 edel, .int .i64 0, .slice A9 ei.length c9] 29)) := (Below.refl _ _).alloc (Nat.le_refl _) _); (have OW7 := Lib.hid ((HO6.out.below BA).push (x := (⟨⟨3, row, p, edel, 0, ei⟩, .slice A9 ei.length c9⟩ : R.Cs)) (own_lower (OG6.out.alloc _) hNr) hown7 hg7)); (have HB7 := Lib.hid ((HB6.out.alloc hN6 _).grown hg7 (Nat.le_trans hN6 BA.size) (fun g e => (HO6.out.row.lt g e).1))); (clear y0 y1 y2); (obtain ⟨y0, y1, y2⟩ := CE.out _ HB7.out); (clear hown7 hg7 hn7 BA HO6 OG6 HB6)))
        go_quiet (fail)
        have hb8 := Lib.hid (below_drewN HB7.out nq)
        have ow8 := Lib.hid (OW7.out.below (below_drewN_ W7 nq))
        go_wp2_with fail
        refine ⟨⟨k + 1, xs ++ [(⟨⟨3, row, p, edel, 0, ei⟩, .slice A9 ei.length c9⟩ : R.Cs)], by omega, by go_num, ?_, by rw [List.length_append, HXL.out]; rfl, Lib.hid ?_, ow8, hb8⟩, by simp [intOf]; omega⟩
        · rw [TK.out, MV.out]; congr 1; omega
        · rw [TK.out, OF.out, List.map_append, List.map_append, hxs.out]
          simp only [List.map_cons, List.map_nil]
          rw [HCX.out]
      · obtain rfl : k = es.length := by omega
        have q2 : decide (es.length < es.length) = false := decide_eq_false (by omega)
        have hall : (E.script X Y).take es.length = E.script X Y := by rw [HEL.out]; exact List.take_length
        have HXS : Hid (xs.map (·.c) = (R.ofEd 0 (E.script X Y)).map (R.Cx.of row)) := Lib.hid (by rw [hxs.out, hall])
        have RP := refreplace_any A1 A2 c1 c2 B row a b wr (RA.out.below hbl.out hBN) (RB.out.below hbl.out hBN) (Nat.le_trans hBN hNr) (by omega) (by omega) hca hcb
        rw [HX.out, HY.out] at RP
        have RP := Lib.hid RP
        have hownr := hown.out
        obtain ⟨Ao, co, rfl, _, _⟩ := hownr.chs
        have hgl : ∀ x ∈ xs, x.c.gl.length ≤ 100000 := R.gl_bd HXS.out LOW.out.2
        have HGL := Lib.hid hgl
        have HOW := Lib.hid hownr
        have CO := Lib.hid (R.costX_of HXS.out)
        have HBR := Lib.hid (HB5.out.trans (hbl.out.mono hNs))
        clear hall hxs hown hownr hgl RA RB
        go_wp2_with fail
        refine RP.out.mono ?_
        rintro e w6 ⟨v4, rfl, own4, b4⟩
        obtain ⟨A8, c8, rfl, _, _⟩ := own_reads_cap own4
        have hs6 := Nat.le_trans hNr b4.size
        have ONE := Lib.hid (R.own_one (base := N) w6 ⟨⟨3, row, 0, (X.length : Nat), 0, Y⟩, .slice A8 Y.length c8⟩ hs6 (own_lower own4 hNr))
        have B5 : Below w6.heap.size w6 (w6.alloc (.cells (R.Cs.cells ⟨⟨3, row, 0, (X.length : Nat), 0, Y⟩, .slice A8 Y.length c8⟩).toArray 29)) := (Below.refl _ _).alloc (Nat.le_refl _) _
        have OUT := Lib.hid ((HOW.out.below b4).below B5)
        have HBO := Lib.hid (HBR.out.trans (((b4.trans (B5.mono b4.size)).mono HBR.out.size)))
        clear RP own4 b4 B5 HOW HBR hbl
        simp only [R.Cs.cells] at ONE OUT HBO ⊢
        obtain ⟨Aq, cq, hq, chs1, hcq⟩ := ONE.out.chs
        obtain ⟨Ar, cr, hr, chs2, hcr⟩ := OUT.out.chs
        injection hq with hq1 hq2 hq3
        injection hr with hr1 hr2 hr3
        subst hq1 hr1
        have K1 := refcost_any _ 1 _ _ _ chs1 (Nat.le_refl _) (by simp) (by intro x hx; simp only [List.mem_singleton] at hx; subst hx; simp only; omega)
        have K2 := refcost_any _ co _ xs _ chs2 (Nat.le_refl _) (by omega) HGL.out
        have C1 : R.costX [⟨⟨3, row, 0, (X.length : Nat), 0, Y⟩, .slice A8 Y.length c8⟩] = R.cost [(⟨0, (X.length : Nat), Y⟩ : R.Ch R.G)] := by simp [R.costX, R.priceX, R.cost, R.price]
        rw [C1] at K1
        rw [CO.out] at K2
        obtain ⟨p, hp⟩ : ∃ p, R.cost [(⟨0, (X.length : Nat), Y⟩ : R.Ch R.G)] = p := ⟨_, rfl⟩
        obtain ⟨q, hq⟩ : ∃ q, R.cost (R.ofEd 0 (E.script X Y)) = q := ⟨_, rfl⟩
        rw [hp] at K1
        rw [hq] at K2
        rw [hp, hq] at SP
        rw [HXL.out] at OUT K2
        rw [HXL.out]
        have K1 := Lib.hid K1
        have K2 := Lib.hid K2
        clear chs1 chs2 hq2 hq3 hr2 hr3 hcq hcr C1 hp hq
        by_cases hpq : p < q
        · have FIN : Hid ([(⟨⟨3, row, 0, (X.length : Nat), 0, Y⟩, .slice A8 Y.length c8⟩ : R.Cs)].map (·.c) = (R.splices R.bl a b).map (R.Cx.of row)) := Lib.hid (by rw [SP.out, if_pos hpq]; rfl)
          go_wp2_with fail
          refine K2.out.mono ?_
          rintro e w7 ⟨rfl, rfl⟩
          go_wp2_with fail
          refine K1.out.mono ?_
          rintro e w8 ⟨rfl, rfl⟩
          go_wp2_with fail
          go_ret
          exact ⟨_, _, rfl, ONE.out.lower hNs, FIN.out, HBO.out⟩
        · have FIN : Hid (xs.map (·.c) = (R.splices R.bl a b).map (R.Cx.of row)) := Lib.hid (by rw [SP.out, if_neg hpq]; exact HXS.out)
          go_wp2_with fail
          refine K2.out.mono ?_
          rintro e w7 ⟨rfl, rfl⟩
          go_wp2_with fail
          refine K1.out.mono ?_
          rintro e w8 ⟨rfl, rfl⟩
          go_wp2_with fail
          go_ret
          exact ⟨_, xs, rfl, OUT.out.lower hNs, FIN.out, HBO.out⟩
end Go.Proofs.Yteakiielcmgkeaa
