/-
  The walks of layer 44: Great, Right. By an AI agent.
-/
import Derived.Test.YtfjkelngdljikaaCh5
import Derived.Test.YtfjkelngdljikaaSus
import Derived.Test.YtfjkelngdljikaaRound
namespace Go.Proofs.Ytfjkelngdljikaa
set_option linter.unusedVariables false
set_option linter.unusedSimpArgs false
open Go.RowKit Go.Deep

namespace Q
/-- Within the bounds of the statements. -/
def smallB (u : Ut) : Bool := decide (u.words.length ≤ 8) && decide (u.chs.length ≤ 8) && u.words.all (fun s => decide (s.size ≤ 30)) && u.chs.all (fun c => decide (c.gl.length ≤ 30))
def Small (u : Ut) : Prop := u.words.length ≤ 8 ∧ u.chs.length ≤ 8 ∧ (∀ s ∈ u.words, s.size ≤ 30) ∧ ∀ c ∈ u.chs, c.gl.length ≤ 30
theorem smallB_iff (u : Ut) : smallB u = true ↔ Small u := by
  simp only [smallB, Small, Bool.and_eq_true, decide_eq_true_eq, List.all_eq_true]
  constructor
  · rintro ⟨⟨⟨a, b⟩, c⟩, d⟩; exact ⟨a, b, c, d⟩
  · rintro ⟨a, b, c, d⟩; exact ⟨⟨⟨a, b⟩, c⟩, d⟩
def grB (l : List Ut) : Bool := decide (8 < l.length) || l.any (fun u => !smallB u)
def gr (l : List Ut) : Int := if grB l = true then 1 else 0
theorem gr_yes {l : List Ut} (h : 8 < l.length ∨ ∃ u ∈ l, ¬ Small u) : gr l = 1 := by
  unfold gr
  rw [if_pos]
  simp only [grB, Bool.or_eq_true, decide_eq_true_eq, List.any_eq_true, Bool.not_eq_true']
  rcases h with h | ⟨u, hu, hs⟩
  · exact .inl h
  · refine .inr ⟨u, hu, ?_⟩
    cases hb : smallB u
    · rfl
    · exact absurd ((smallB_iff u).1 hb) hs
theorem gr_no {l : List Ut} (h : l.length ≤ 8) (h2 : ∀ u ∈ l, Small u) : gr l = 0 := by
  unfold gr
  rw [if_neg]
  simp only [grB, Bool.or_eq_true, decide_eq_true_eq, List.any_eq_true, Bool.not_eq_true']
  rintro (h' | ⟨u, hu, hs⟩)
  · omega
  · rw [(smallB_iff u).2 (h2 u hu)] at hs; cases hs
theorem gr_zero {l : List Ut} (h : gr l = 0) : l.length ≤ 8 ∧ ∀ u ∈ l, Small u := by
  by_cases h1 : 8 < l.length
  · rw [gr_yes (.inl h1)] at h; cases h
  · refine ⟨by omega, fun u hu => ?_⟩
    cases hb : smallB u
    · have : ¬ Small u := fun hs => by rw [(smallB_iff u).2 hs] at hb; cases hb
      rw [gr_yes (.inr ⟨u, hu, this⟩)] at h; cases h
    · exact (smallB_iff u).1 hb
theorem gr_vals (l : List Ut) : gr l = 0 ∨ gr l = 1 := by unfold gr; split <;> simp
/-- What the machine holds of an utterance that came in. -/
def Ut.Fits (u : Ut) : Prop := u.Ok ∧ ∀ s ∈ u.words, s.size ≤ maxLen
theorem Small.ok {u : Ut} (h : Small u) : u.Ok := ⟨Nat.le_trans h.1 (by decide), Nat.le_trans h.2.1 (by decide), fun c hc => Nat.le_trans (h.2.2.2 c hc) (by decide)⟩
end Q
set_option maxRecDepth 100000 in
set_option maxHeartbeats 3000000 in
theorem great_any (A : Option Addr) (c B : Nat) (l : List Q.Um) (w : World) (h : Q.UsIn w B A l) (hl : l.length ≤ maxLen) (hok : ∀ m ∈ l, m.u.Fits) :
    Calls Try.prog 12 #[.slice A l.length c] w fun e w' => e = .returned (.int .i64 (Q.gr (l.map (·.u)))) ∧ w = w' := by
  have HI := Lib.hid h
  have HOK := Lib.hid hok
  have YES := Lib.hid (fun h => Q.gr_yes (l := l.map (·.u)) h)
  have NO := Lib.hid (fun h h2 => Q.gr_no (l := l.map (·.u)) h h2)
  unfold maxLen at hl
  clear h hok
  by_cases h8 : 8 < l.length
  · have H := Lib.hid (YES.out (.inl (by simpa using h8)))
    clear YES NO
    go_enter Try.func12, Try.ntmps12
    go_wp2_with fail
    go_ret
    exact ⟨ret_int H.out.symm, rfl⟩
  · go_enter Try.func12, Try.ntmps12
    go_wp2_with fail
    go_loop [3] (fun v => ∃ k : Nat, k ≤ l.length ∧ v = .int .i64 k ∧ Hid (∀ j (h : j < l.length), j < k → Q.Small l[j].u)) (fun v => l.length - (intOf v).toNat)
    case atStart => exact ⟨0, Nat.zero_le _, rfl, Lib.hid (fun j _ h => absurd h (by omega))⟩
    case round =>
      obtain ⟨k, hk, rfl, hprev⟩ := hrel
      by_cases hlt : k < l.length
      · obtain ⟨b, off, rfl, hbB, hcl⟩ := Q.reads_at HI.out.row (by omega)
        obtain ⟨c0, c1, c2, c3, c4⟩ := hcl k hlt
        obtain ⟨iw, ⟨xs, ex, ix⟩, _, _⟩ := HI.out.el l[k] (List.getElem_mem hlt)
        obtain ⟨⟨ow, oc, og⟩, os⟩ := HOK.out l[k] (List.getElem_mem hlt)
        have BAD : Hid (¬ Q.Small l[k].u → Q.gr (l.map (·.u)) = 1) := Lib.hid (fun h => YES.out (.inr ⟨l[k].u, List.mem_map.2 ⟨_, List.getElem_mem hlt, rfl⟩, h⟩))
        have NEXT : Hid (Q.Small l[k].u → (∀ j (h : j < l.length), j < k + 1 → Q.Small l[j].u)) := Lib.hid (fun hs j h hj => by
          by_cases e : j = k
          · subst e; exact hs
          · exact hprev.out j h (by omega))
        have q1 : (0 : Int) ≤ (k : Int) := by omega
        have q2 : (k : Int) < (l.length : Int) := by omega
        clear hcl hprev
        have hxl : xs.length = l[k].u.chs.length := by rw [← ex, List.length_map]
        obtain ⟨u, hu⟩ : ∃ u, l[k].u = u := ⟨_, rfl⟩
        rw [hu] at c0 c1 c2 c3 c4 iw ex ow oc og os BAD NEXT hxl
        have IW := Lib.hid iw
        have IX := Lib.hid ix
        have EX := Lib.hid ex
        have OS := Lib.hid os
        have OG := Lib.hid og
        have HXL := Lib.hid hxl
        clear hu iw ix ex os og hxl
        generalize l[k].aw = aw at *
        generalize l[k].cw = cw at *
        generalize l[k].ac = ac at *
        generalize l[k].cc = cc at *
        unfold maxLen at ow oc
        by_cases w8 : 8 < u.words.length
        · have H := Lib.hid (BAD.out (fun h => by have := h.1; omega))
          clear BAD NEXT YES NO
          go_wp2_with fail
          go_ret
          exact ⟨ret_int H.out.symm, rfl⟩
        · by_cases x8 : 8 < u.chs.length
          · have H := Lib.hid (BAD.out (fun h => by have := h.2.1; omega))
            clear BAD NEXT YES NO
            go_wp2_with fail
            go_ret
            exact ⟨ret_int H.out.symm, rfl⟩
          · go_wp2_with fail
            go_loop [4] (fun v => ∃ i : Nat, i ≤ u.words.length ∧ v = .int .i64 i ∧ Hid (∀ j (h : j < u.words.length), j < i → (u.words[j]).size ≤ 30)) (fun v => u.words.length - (intOf v).toNat)
            case atStart => exact ⟨0, Nat.zero_le _, rfl, Lib.hid (fun j _ h => absurd h (by omega))⟩
            case round =>
              obtain ⟨i, hi, rfl, hpw⟩ := hrel
              have p1 : (0 : Int) ≤ (i : Int) := by omega
              by_cases hiw : i < u.words.length
              · obtain ⟨b1, o1, rfl, hb1, h1⟩ := Q.word_at IW.out (by omega)
                have z0 := h1 i hiw
                have hsz := OS.out _ (List.getElem_mem hiw)
                have p2 : (i : Int) < (u.words.length : Int) := by omega
                have HS : Hid (30 < (u.words[i]).size → ¬ Q.Small u) := Lib.hid (fun h hs => by have := hs.2.2.1 _ (List.getElem_mem hiw); omega)
                have HN : Hid ((u.words[i]).size ≤ 30 → (∀ j (h : j < u.words.length), j < i + 1 → (u.words[j]).size ≤ 30)) := Lib.hid (fun hs j h hj => by
                  by_cases e : j = i
                  · subst e; exact hs
                  · exact hpw.out j h (by omega))
                clear h1 hpw
                generalize u.words[i] = s at *
                unfold maxLen at hsz
                by_cases h30 : 30 < s.size
                · have H := Lib.hid (BAD.out (HS.out h30))
                  clear BAD NEXT YES NO HS HN
                  go_wp2_with fail
                  go_ret
                  exact ⟨ret_int H.out.symm, rfl⟩
                · have HN2 := Lib.hid (HN.out (by omega))
                  clear HS HN
                  go_wp2_with fail
                  exact ⟨⟨i + 1, hiw, by go_num, HN2⟩, by simp [intOf]; omega⟩
              · obtain rfl : i = u.words.length := by omega
                have q3 : decide (u.words.length < u.words.length) = false := decide_eq_false (by omega)
                go_wp2_with fail
                go_loop [5] (fun v => ∃ i : Nat, i ≤ u.chs.length ∧ v = .int .i64 i ∧ Hid (∀ j (h : j < u.chs.length), j < i → (u.chs[j]).gl.length ≤ 30)) (fun v => u.chs.length - (intOf v).toNat)
                case atStart => exact ⟨0, Nat.zero_le _, rfl, Lib.hid (fun j _ h => absurd h (by omega))⟩
                case round =>
                  obtain ⟨i, hi2, rfl, hpc⟩ := hrel
                  have p1 : (0 : Int) ≤ (i : Int) := by omega
                  by_cases hic : i < u.chs.length
                  · obtain ⟨b1, o1, rfl, hb1, h1⟩ := IX.out.at_ (by rw [HXL.out]; omega)
                    have hix : i < xs.length := by rw [HXL.out]; exact hic
                    obtain ⟨z0, z1, z2, z3, z4, z5⟩ := h1 i hix
                    obtain ⟨Ag, cg, sg, _, _⟩ := IX.out.gl xs[i] (List.getElem_mem hix)
                    have ec : xs[i].c = u.chs[i] := by have := congrArg (fun l => l[i]?) EX.out; simpa [hix, hic] using this
                    rw [sg, ec] at z5
                    have hsz := OG.out _ (List.getElem_mem hic)
                    have p2 : (i : Int) < (u.chs.length : Int) := by omega
                    have HS : Hid (30 < (u.chs[i]).gl.length → ¬ Q.Small u) := Lib.hid (fun h hs => by have := hs.2.2.2 _ (List.getElem_mem hic); omega)
                    have HN : Hid ((u.chs[i]).gl.length ≤ 30 → (∀ j (h : j < u.chs.length), j < i + 1 → (u.chs[j]).gl.length ≤ 30)) := Lib.hid (fun hs j h hj => by
                      by_cases e : j = i
                      · subst e; exact hs
                      · exact hpc.out j h (by omega))
                    clear h1 hpc sg ec z0 z1 z2 z3 z4
                    generalize (u.chs[i]).gl.length = n at *
                    unfold maxLen at hsz
                    by_cases h30 : 30 < n
                    · have H := Lib.hid (BAD.out (HS.out h30))
                      clear BAD NEXT YES NO HS HN
                      go_wp2_with fail
                      go_ret
                      exact ⟨ret_int H.out.symm, rfl⟩
                    · have HN2 := Lib.hid (HN.out (by omega))
                      clear HS HN
                      go_wp2_with fail
                      exact ⟨⟨i + 1, hic, by go_num, HN2⟩, by simp [intOf]; omega⟩
                  · obtain rfl : i = u.chs.length := by omega
                    have q4 : decide (u.chs.length < u.chs.length) = false := decide_eq_false (by omega)
                    have HN2 := Lib.hid (NEXT.out ⟨by omega, by omega, fun s hs => by
                      obtain ⟨j, hj, rfl⟩ := List.getElem_of_mem hs
                      exact hpw.out j hj hj, fun c hc => by
                      obtain ⟨j, hj, rfl⟩ := List.getElem_of_mem hc
                      exact hpc.out j hj hj⟩)
                    clear BAD NEXT hpw hpc
                    go_wp2_with fail
                    exact ⟨⟨k + 1, hlt, by go_num, HN2⟩, by simp [intOf]; omega⟩
      · obtain rfl : k = l.length := by omega
        have q4 : decide (l.length < l.length) = false := decide_eq_false (by omega)
        have H := Lib.hid (NO.out (by simp; omega) (fun u hu => by
          obtain ⟨m, hm, rfl⟩ := List.mem_map.1 hu
          obtain ⟨j, hj, rfl⟩ := List.getElem_of_mem hm
          exact hprev.out j hj hj))
        clear YES NO hprev
        go_wp2_with fail
        go_ret
        exact ⟨ret_int H.out.symm, rfl⟩
/-- The bounds of the statements, and what is proper. -/
def Q.right (q : Q.Qa) : Int := if Q.chk q = 0 ∧ Q.gr q.items = 0 ∧ Q.gr [q.cur] = 0 then 1 else 0
set_option maxRecDepth 100000 in
set_option maxHeartbeats 3000000 in
theorem right_any (q : Q.Qm) (B : Nat) (w : World) (h : Q.QIn w B q) (hB : B ≤ w.heap.size) (hl : q.items.length ≤ maxLen) (hok : ∀ m ∈ q.items, m.u.Fits) (hoc : q.cur.u.Fits) :
    Calls Try.prog 11 #[.agg q.cells.toArray] w fun e w' => e = .returned (.int .i64 (Q.right q.a)) ∧ Below w.heap.size w w' := by
  have b0 := below_box w (.cells q.cells.toArray 28)
  have V0 : (w.alloc (.cells q.cells.toArray 28)).heap[w.heap.size]? = some (.cells q.cells.toArray 28 (0, 0)) := heap_alloc_new w _
  have CK := refcheck_any q B (w.alloc (.cells q.cells.toArray 28)) (h.items.row.below b0 hB) (Nat.le_trans hB b0.size) hl (fun m hm => ⟨(hok m hm).1.1, (hok m hm).1.2.1⟩) hoc.1.1 hoc.1.2.1
  have GI := fun (W : World) (hb : Below w.heap.size w W) => great_any q.ai q.ci B q.items W (h.items.below hb hB) hl hok
  have GC := fun (W : World) (hb : Below w.heap.size w W) => great_any (some ⟨W.heap.size, 0, none⟩) 1 (W.alloc (.cells q.cur.cells.toArray 25)).heap.size [q.cur] (W.alloc (.cells q.cur.cells.toArray 25)) ⟨by
      have e : Q.ucs [q.cur] = q.cur.cells := by simp [Q.ucs]
      rw [e]; exact reads_block W q.cur.cells 25 5 1 rfl, fun m hm => by
      simp only [List.mem_singleton] at hm; subst hm
      exact ((h.cur.below hb hB).below (below_box W _) (Nat.le_trans hB hb.size)).more (Nat.le_trans hB (Nat.le_trans hb.size (below_box W _).size))⟩ (by simp [maxLen]) (fun m hm => by
      simp only [List.mem_singleton] at hm; subst hm; exact hoc)
  obtain ⟨ck, rt, sp, ⟨cu, aw, cw, ac, cc⟩, be, en, items, ai, ci⟩ := q
  simp only [Q.Qm.cells, Q.Um.cells, Q.Qm.a, List.map_cons, List.map_nil, List.length_cons, List.length_nil] at b0 V0 CK GI GC ⊢
  have RT : Q.right ⟨ck, rt, sp, cu, be, en, items.map (·.u)⟩ = if Q.chk ⟨ck, rt, sp, cu, be, en, items.map (·.u)⟩ = 0 ∧ Q.gr (items.map (·.u)) = 0 ∧ Q.gr [cu] = 0 then 1 else 0 := rfl
  have gv1 := Q.gr_vals (items.map (·.u))
  have gv2 := Q.gr_vals [cu]
  generalize Q.right ⟨ck, rt, sp, cu, be, en, items.map (·.u)⟩ = rr at *
  generalize Q.chk ⟨ck, rt, sp, cu, be, en, items.map (·.u)⟩ = kv at *
  generalize Q.gr (items.map (·.u)) = g1 at *
  generalize Q.gr [cu] = g2 at *
  clear h hok hoc
  unfold maxLen at hl
  simp only at hl
  generalize cu.words.length = z1 at *
  generalize cu.chs.length = z4 at *
  generalize cu.cl = z6 at *
  generalize cu.af = z7 at *
  generalize cu.up = z8 at *
  have B0 := Lib.hid b0
  replace CK := Lib.hid CK
  replace GI := Lib.hid GI
  replace GC := Lib.hid GC
  replace RT := Lib.hid RT
  have V0' := Lib.hid V0
  have s0 : w.heap.size < (w.alloc (.cells #[.int .i64 ck, .int .i64 rt, .bool sp, .slice aw z1 cw, .slice ac z4 cc, .int .i64 z6, .int .i64 z7, .int .i64 z8, .int .i64 be, .int .i64 en, .slice ai items.length ci] 28)).heap.size := by simp
  clear b0 V0
  go_enter Try.func11, Try.ntmps11
  go_wp2_with fail
  refine CK.out.mono ?_
  rintro e w1 ⟨rfl, b1⟩
  have B1 := Lib.hid (B0.out.trans (b1.mono B0.out.size))
  have V1 := (b1.block w.heap.size s0).trans V0'.out
  have k3 := cell_of_block_ (i := 3) V1
  have k4 := cell_of_block_ (i := 4) V1
  have k5 := cell_of_block_ (i := 5) V1
  have k6 := cell_of_block_ (i := 6) V1
  have k7 := cell_of_block_ (i := 7) V1
  have k10 := cell_of_block_ (i := 10) V1
  simp at k3 k4 k5 k6 k7 k10
  have GI1 := Lib.hid (GI.out w1 B1.out)
  have GC1 := Lib.hid (GC.out w1 B1.out)
  clear CK b1 V1 V0' GI GC B0 s0
  by_cases hk : kv = 0
  case neg =>
    have hb : (kv != 0) = true := bne_iff_ne.2 hk
    have H : Hid (rr = 0) := Lib.hid (by rw [RT.out, if_neg (fun h => hk h.1)])
    clear RT hk GI1 GC1
    go_wp2_with fail
    go_ret
    exact ⟨ret_int H.out.symm, B1.out⟩
  subst hk
  go_wp2_with fail
  refine GI1.out.mono ?_
  rintro e w2 ⟨rfl, rfl⟩
  rcases gv1 with rfl | rfl
  case inr =>
    have H : Hid (rr = 0) := Lib.hid (by rw [RT.out, if_neg (fun h => by cases h.2.1)])
    clear RT GI1 GC1
    go_wp2_with fail
    go_ret
    exact ⟨ret_int H.out.symm, B1.out⟩
  go_wp2_with fail
  refine GC1.out.mono ?_
  rintro e w3 ⟨rfl, rfl⟩
  have B2 := Lib.hid (B1.out.alloc B1.out.size (.cells #[.slice aw z1 cw, .slice ac z4 cc, .int .i64 z6, .int .i64 z7, .int .i64 z8] 25))
  rcases gv2 with rfl | rfl
  case inr =>
    have H : Hid (rr = 0) := Lib.hid (by rw [RT.out, if_neg (fun h => by cases h.2.2)])
    clear RT GI1 GC1
    go_wp2_with fail
    go_ret
    exact ⟨ret_int H.out.symm, B2.out⟩
  have H : Hid (rr = 1) := Lib.hid (by rw [RT.out, if_pos (by simp)])
  clear RT GI1 GC1
  go_wp2_with fail
  go_ret
  exact ⟨ret_int H.out.symm, B2.out⟩
end Go.Proofs.Ytfjkelngdljikaa
