/-
  The statements of layer 29: AssignmentDiagonal. By an AI agent.
-/
import Derived.Lib.SliceRun
import Derived.Laws.CopyOwn
import Derived.Test.YtnekhlklflgodaaSft
namespace Go.Proofs.Ytnekhlklflgodaa
open Go.RowKit

theorem A.swap_self (N : Nat → Nat) (i r : Nat) : A.swap N i i r = N r := by
  unfold A.swap
  by_cases e : r = i
  · subst e; rw [A.upd_same]
  · rw [A.upd_ne _ _ e, A.upd_ne _ _ e]
theorem A.swap_pf2 {n : Nat} {N : Nat → Nat} (h : A.Pf n N) {i j : Nat} (hi : 1 ≤ i ∧ i ≤ n) (hj : 1 ≤ j ∧ j ≤ n) : A.Pf n (A.swap N i j) := by
  by_cases e : i = j
  · subst e
    exact ⟨fun r h1 h2 => by rw [A.swap_self]; exact h.rg r h1 h2, fun r r' h1 h2 h3 h4 he => by rw [A.swap_self, A.swap_self] at he; exact h.inj r r' h1 h2 h3 h4 he⟩
  · exact A.swap_pf h hi hj e
theorem C.asg_swap (n : Nat) (N : Nat → Nat) {i j : Nat} (hi : i < n) (hj : j < n) : ((C.ns (C.asg n N)).set i (.int .i64 (((N (j + 1) : Nat) : Int) - 1))).set j (.int .i64 (((N (i + 1) : Nat) : Int) - 1)) = C.ns (C.asg n (A.swap N (i + 1) (j + 1))) := by
  refine List.ext_getElem (by simp [C.ns, C.asg]) fun k h1 h2 => ?_
  simp only [List.getElem_set, C.ns, C.asg, List.getElem_map, List.getElem_range]
  by_cases e : j = k
  · subst e; rw [if_pos rfl, A.swap_j]
  · rw [if_neg e]
    by_cases e2 : i = k
    · subst e2; rw [if_pos rfl, A.swap_i _ (by omega)]
    · rw [if_neg e2, A.swap_ne _ (by omega) (by omega)]
/-- A table whose numbers are known. -/
structure C.Fn (n : Nat) (t : List (List Int)) (f : Nat → Nat → Int) : Prop where
  len : t.length = n
  row : ∀ r ∈ t, r.length = n
  eq : ∀ a b, a < n → b < n → C.at2 t a b = f a b
theorem C.Fn.step {n : Nat} {t : List (List Int)} {f g : Nat → Nat → Int} (h : C.Fn n t f) {a b : Nat} (ha : a < n) (hb : b < n) (x : Int) (hg : ∀ c d, c < n → d < n → g c d = if c = a ∧ d = b then x else f c d) : C.Fn n (C.turn t a b x) g := by
  refine ⟨by rw [C.turn_len]; exact h.len, C.turn_row _ _ _ h.row, fun c d hc hd => ?_⟩
  rw [C.turn_at _ h.row (by rw [h.len]; exact ha) hb, hg c d hc hd]
  by_cases e : c = a ∧ d = b
  · rw [if_pos e, if_pos e]
  · rw [if_neg e, if_neg e]; exact h.eq c d hc hd
/-- The table after i whole rows and j numbers of the next. -/
def C.dg (M : List (List Int)) (P : Nat → Nat) (i j a b : Nat) : Int := if a < i then (if b + 1 = P (a + 1) then 0 else C.at2 M a b + 1) else if a = i ∧ b < j then C.at2 M a b + 1 else C.at2 M a b
theorem C.dg_inc (M : List (List Int)) (P : Nat → Nat) (i j c d : Nat) : C.dg M P i (j + 1) c d = if c = i ∧ d = j then C.dg M P i j i j + 1 else C.dg M P i j c d := by
  unfold C.dg
  by_cases h1 : c = i ∧ d = j
  · obtain ⟨rfl, rfl⟩ := h1
    simp
  · rw [if_neg h1]
    by_cases h2 : c < i
    · simp only [if_pos h2]
    · simp only [if_neg h2]
      by_cases h3 : c = i ∧ d < j
      · rw [if_pos h3, if_pos ⟨h3.1, by omega⟩]
      · rw [if_neg h3, if_neg (fun h => h3 ⟨h.1, by have : d ≠ j := fun e => h1 ⟨h.1, e⟩; omega⟩)]
theorem C.dg_zero (M : List (List Int)) (P : Nat → Nat) (i n x c d : Nat) (hx : P (i + 1) = x + 1) (hd : d < n) : C.dg M P (i + 1) 0 c d = if c = i ∧ d = x then 0 else C.dg M P i n c d := by
  unfold C.dg
  by_cases h2 : c < i
  · have h3 : ¬ (c = i ∧ d = x) := by omega
    simp only [if_neg h3, if_pos h2, if_pos (show c < i + 1 by omega)]
  · by_cases h3 : c = i
    · subst h3
      simp only [if_pos (show c < c + 1 by omega), if_neg (show ¬ c < c by omega), true_and, if_pos hd, hx]
      by_cases e : d = x
      · subst e; simp
      · rw [if_neg e, if_neg (by omega)]
    · have e1 : ¬ (c = i ∧ d = x) := fun h => h3 h.1
      have e2 : ¬ (c = i ∧ d < n) := fun h => h3 h.1
      have e3 : ¬ (c = i + 1 ∧ d < 0) := by omega
      simp only [if_neg (show ¬ c < i + 1 by omega), if_neg e1, if_neg e2, if_neg e3, if_neg h2]
theorem C.dg_fin {n : Nat} {M t : List (List Int)} {P N : Nat → Nat} {i : Nat} (h : C.Fn n t (C.dg M P i 0)) (hi : n ≤ i) (hM : ∀ a b, a < n → b < n → 0 ≤ C.at2 M a b ∧ C.at2 M a b ≤ 1000) (hP : A.Pf n P) (hb : A.Best n (C.cst t) N) : C.asg n P = C.asg n N := by
  have e : ∀ r j, 1 ≤ r → r ≤ n → 1 ≤ j → j ≤ n → C.cst t r j = if j = P r then 0 else C.at2 M (r - 1) (j - 1) + 1 := fun r j h1 h2 h3 h4 => by
    rw [C.cst_at2, h.eq _ _ (by omega) (by omega)]
    unfold C.dg
    rw [if_pos (by omega), show r - 1 + 1 = r by omega, show j - 1 + 1 = j by omega]
  have u := A.diagonal_law hb hP (fun r h1 h2 => by
    have := hP.rg r h1 h2
    rw [e r _ h1 h2 this.1 this.2, if_pos rfl]) (fun r j h1 h2 h3 h4 hne => by
    rw [e r j h1 h2 h3 h4, if_neg hne]
    have := hM (r - 1) (j - 1) (by omega) (by omega)
    omega)
  exact C.asg_congr fun r h1 h2 => (u r h1 h2).symm
theorem C.dg_sq {n : Nat} {M t : List (List Int)} {P : Nat → Nat} {i j : Nat} (h : C.Fn n t (C.dg M P i j)) (hn : n ≤ 40) (hM : ∀ a b, a < n → b < n → 0 ≤ C.at2 M a b ∧ C.at2 M a b ≤ 1000) : C.Sq t :=
  C.sq_of_at hn h.len h.row fun a b ha hb => by
    have := hM a b ha hb
    rw [h.eq a b ha hb]
    unfold C.dg
    split
    · split <;> omega
    · split <;> omega
set_option maxRecDepth 100000 in
set_option maxHeartbeats 16000000 in
theorem diaglaw_any (Ap : Option Addr) (cp : Nat) (ps : List Int) (Al : Option Addr) (cl : Nat) (l : List Int) (w : World) (hp : Reads w w.heap.size 1 Ap ps.length (ps.map (Value.int .u8))) (hpw : ∀ z ∈ ps, (Lit.int .u8 z).wf = true) (hyp : ps.length ≤ 140737488351232) (hr : Reads w w.heap.size 1 Al l.length (C.ns l)) (_ : ∀ z ∈ l, (Lit.int .i64 z).wf = true) (hy : l.length ≤ 17592186043904) :
    Calls Try.prog 8 #[.slice Ap ps.length cp, .slice Al l.length cl] w fun e w' => e = .returned (.bool true) ∧ Below w.heap.size w w' := by
  by_cases h12 : 12 < ps.length
  · have h12' : decide ((12 : Int) < (ps.length : Int)) = true := decide_eq_true (by omega)
    go_enter Try.func8, Try.ntmps8
    go_wp2_with fail
    refine (awake_any _).mono ?_
    rintro e' w9 ⟨rfl, b9⟩
    go_wp2_with fail
    go_ret
    exact ⟨rfl, b9⟩
  · have h12' : decide ((12 : Int) < (ps.length : Int)) = false := decide_eq_false (by omega)
    by_cases h150 : 150 < l.length
    · go_enter Try.func8, Try.ntmps8
      go_wp2_with fail
      refine (awake_any _).mono ?_
      rintro e' w9 ⟨rfl, b9⟩
      go_wp2_with fail
      go_ret
      exact ⟨rfl, b9⟩
    · have h150' : decide ((150 : Int) < (l.length : Int)) = false := decide_eq_false (by omega)
      have h150'' : decide (150 < l.length) = false := decide_eq_false h150
      obtain ⟨n, hn⟩ : ∃ n, ps.length = n := ⟨_, rfl⟩
      have MA := Lib.hid (fun (w' : World) (hb : Below w.heap.size w w') => matrix_any w.heap.size Al cl l n 1000 w' (hr.below hb (Nat.le_refl _)) hb.size (by omega) (by omega) (by omega))
      have HMB := Lib.hid (C.mtx_at2 l (mo := 1000) (by omega) n)
      have SQ := Lib.hid (C.mtx_sq l (mo := 1000) (by omega) (by omega) (n := n) (by omega))
      have SL := Lib.hid (C.mtx_len l 1000 n n)
      obtain ⟨M, hM⟩ : ∃ M, C.mtx l 1000 n n = M := ⟨_, rfl⟩
      unfold C.MatOut at MA
      rw [hM] at MA HMB SQ SL
      have HP := Lib.hid hp
      have HPW := Lib.hid hpw
      have HPN := Lib.hid hn
      have hn12 : n ≤ 12 := by omega
      obtain ⟨i0, hi, hz0, hz1, hz2⟩ := info_parts infoInt
      have own0 : Hid ((w.alloc (.cells #[] 3)).ownsRow w.heap.size 3 1 (.slice (some ⟨w.heap.size, 0, none⟩) 0 0) 0 (C.ns (C.asg 0 id))) := Lib.hid (World.ownsRow_lit (base := w.heap.size) (e := 3) (size := 1) w #[] 0 (Nat.le_refl _) (by decide) rfl)
      have B0 : Hid (Below w.heap.size w (w.alloc (.cells #[] 3))) := Lib.hid ((Below.refl _ w).alloc (Nat.le_refl _) _)
      rw [hn] at h12'
      rw [hn]
      clear hp hr h150 hM hpw hn h12
      go_enter Try.func8, Try.ntmps8
      go_wp2_with fail
      go_loopw [6, 28] (fun v6 v28 wr => ∃ i : Nat, v28 = .int .i64 i ∧ i ≤ n ∧ Hid (wr.ownsRow w.heap.size 3 1 v6 i (C.ns (C.asg i id))) ∧ Hid (Below w.heap.size w wr)) (fun _ v28 _ => n - (intOf v28).toNat)
      case atStart => exact ⟨0, rfl, by omega, own0, B0⟩
      case round =>
        clear own0 B0
        obtain ⟨i, rfl, hin, hown, hbl⟩ := hrel
        by_cases hlt : i < n
        · have own1 := hown.out.alloc (.cells #[.int .i64 i] 3)
          have hsz := hbl.out.size
          go_wp2_with (at_builtin; refine wpList_append_any _ rfl (.tmp 31) (.tmp 33) 23 rfl w.heap.size 3 i0 _ 1 8 Try.underlying23 hi hz0 hz1 hz2 rfl (by decide) u6 _ _ rfl own1 _ _ 1 1 [.int .i64 i] rfl (reads_new _ [.int .i64 i] 3) (by simp [Value.oneCell']) (by simp only [maxLen]; omega) (by omega) (by simp; omega) ?_; intro v' W2 hown' hgrow hnew)
          have OW2 : Hid (W2.ownsRow w.heap.size 3 1 v' (i + 1) (C.ns (C.asg (i + 1) id))) := Lib.hid (by
            rw [C.asg_succ]
            simp only [C.ns, List.map_append, List.map_cons, List.map_nil, id]
            rw [show (((i + 1 : Nat) : Int) - 1) = (i : Int) by omega]
            exact hown')
          have B2 : Hid (Below w.heap.size w W2) := Lib.hid ((hbl.out.alloc hbl.out.size _).grown hgrow (by simp; omega) (fun b e => (hown.out.lt b e).1))
          clear hown' hgrow hnew own1 hown hbl
          go_wp2
          go_roundw
          case rel => exact ⟨i + 1, by go_num, by omega, OW2, B2⟩
          case measure => simp [intOf] <;> omega
        · obtain ⟨Aq, cq, hv, -⟩ := own_reads hown.out
          have hin' : i = n := by omega
          rw [hin'] at hown hv
          have q1 : decide ((i : Int) < (n : Int)) = false := decide_eq_false (by omega)
          have PF0 : Hid (A.Pf n id) := Lib.hid ⟨fun r h1 h2 => ⟨h1, h2⟩, fun _ _ _ _ _ _ h => h⟩
          clear hin'
          subst hv
          go_wp2_with fail
          go_loopw [38] (fun v38 wr => ∃ k : Nat, ∃ P, v38 = .int .i64 k ∧ k ≤ n ∧ Hid (A.Pf n P) ∧ Hid (wr.ownsRow w.heap.size 3 1 (.slice Aq n cq) n (C.ns (C.asg n P))) ∧ Hid (Below w.heap.size w wr)) (fun v38 _ => n - (intOf v38).toNat)
          case atStart => exact ⟨0, id, rfl, by omega, PF0, hown, hbl⟩
          case round =>
            clear PF0 hown hbl
            obtain ⟨k, P, rfl, hkn, hpf, hown, hbl⟩ := hrel
            by_cases hlk : k < n
            · obtain ⟨g, cap, e⟩ := ownsRow_succ (k := n - 1) (by rw [show n - 1 + 1 = n by omega]; exact hown.out)
              obtain rfl : Aq = some ⟨g, 0, none⟩ := by injection e
              clear e
              have hkp : k < ps.length := by rw [HPN.out]; exact hlk
              obtain ⟨b2, o2, rfl, hb2, h2⟩ := HP.out.flat (by omega) (by decide)
              have x0 := (hbl.out.cell (p := ⟨b2, o2 + k, none⟩) hb2).trans (h2 k (.int .u8 ps[k]) (by simp [hkp]))
              have hb : 0 ≤ ps[k] ∧ ps[k] ≤ 255 := by simpa [Lit.wf, IntKind.min, IntKind.max, IntKind.signed, IntKind.bits] using HPW.out _ (List.getElem_mem hkp)
              obtain ⟨y, hy'⟩ : ∃ y : Nat, ps[k] = y := ⟨ps[k].toNat, by omega⟩
              obtain ⟨j, hj⟩ : ∃ j : Nat, y % n = j := ⟨_, rfl⟩
              have hjn : j < n := by rw [← hj]; exact Nat.mod_lt _ (by omega)
              have uj : ((y : Int)) % (n : Int) = (j : Int) := by rw [← hj]; omega
              have uy : IntKind.i64.wrap (y : Int) = (y : Int) := by simp [IntKind.wrap, IntKind.bits, IntKind.signed]; omega
              have hn0 : ((n : Int) == 0) = false := beq_eq_false_iff_ne.2 (by omega)
              rw [hy'] at x0
              have y0 := (hown.out.cellAt k (by omega)).trans (show (C.ns (C.asg n P))[k]? = some (.int .i64 (((P (k + 1) : Nat) : Int) - 1)) from by simp [C.ns, C.asg, hlk])
              have y1 := (hown.out.cellAt j (by omega)).trans (show (C.ns (C.asg n P))[j]? = some (.int .i64 (((P (j + 1) : Nat) : Int) - 1)) from by simp [C.ns, C.asg, hjn])
              have fz := hown.out.frozenAt k
              have fz1 := hown.out.frozenAt j
              have hg0 := (hown.out.lt g rfl).1
              have OW1 := (hown.out.stored k (.int .i64 (((P (j + 1) : Nat) : Int) - 1))).1
              have OW2 := (OW1.stored j (.int .i64 (((P (k + 1) : Nat) : Int) - 1))).1
              obtain ⟨zz, z1⟩ : ∃ zz, (wr.setCell ⟨g, k, none⟩ (.int .i64 (((P (j + 1) : Nat) : Int) - 1))).cell? ⟨g, j, none⟩ = some zz := ⟨_, (OW1.cellAt j (by omega)).trans (List.getElem?_eq_getElem (by simp [C.ns, C.asg_len, hjn]))⟩
              have fz2 := OW1.frozenAt j
              rw [C.asg_swap n P hlk hjn] at OW2
              have OW3 := Lib.hid OW2
              clear OW2
              have PF2 := Lib.hid (A.swap_pf2 hpf.out (i := k + 1) (j := j + 1) (by omega) (by omega))
              have BB := Lib.hid ((hbl.out.setCell (p := ⟨g, k, none⟩) hg0 (.int .i64 (((P (j + 1) : Nat) : Int) - 1))).setCell (p := ⟨g, j, none⟩) hg0 (.int .i64 (((P (k + 1) : Nat) : Int) - 1)))
              have q1 : (0 : Int) ≤ (k : Int) := by omega
              have q2 : (k : Int) < (n : Int) := by omega
              have q3 : (0 : Int) ≤ (j : Int) := by omega
              have q4 : (j : Int) < (n : Int) := by omega
              clear hown hbl hpf h2 hy' hj OW1 hb
              generalize A.swap P (k + 1) (j + 1) = P2 at *
              generalize ((P (k + 1) : Nat) : Int) - 1 = xk at *
              generalize ((P (j + 1) : Nat) : Int) - 1 = xj at *
              go_wp2_with fail
              go_region
              all_goals
                go_wp2
                go_roundw
                case rel => exact ⟨k + 1, P2, by go_num, by omega, PF2, Lib.hid OW3.out.drew, Lib.hid BB.out.drew⟩
                case measure => simp [intOf] <;> omega
            · have q2 : decide ((k : Int) < (n : Int)) = false := decide_eq_false (by omega)
              have hkn' : decide ((k : Int) < (ps.length : Int)) = false := decide_eq_false (by have := HPN.out; omega)
              obtain ⟨A7, c7, e7, hpr⟩ := own_reads hown.out
              obtain ⟨rfl, rfl⟩ : Aq = A7 ∧ cq = c7 := by injection e7 with e1 _ e3; exact ⟨e1, e3⟩
              obtain ⟨w2, hw2⟩ : ∃ w2 : World, w2 = wr := ⟨_, rfl⟩
              rw [← hw2] at hpr hbl ⊢
              have PR := Lib.hid hpr
              have B2 := hbl
              have MT := Lib.hid (MA.out w2 hbl.out)
              clear e7 hpr hown hbl hw2 MA HP HPW HPN
              go_wp2_with fail
              refine MT.out.mono ?_
              rintro e' w3 ⟨v, ts, rfl, hom, hmt, b3⟩
              have hl : ts.length = n := by have := congrArg List.length hmt; rw [SL.out] at this; simpa [C.mt] using this
              have hq : C.Sq (C.mt ts) := by rw [hmt]; exact SQ.out
              have hrr : ∀ r ∈ C.mt ts, r.length = n := fun r hr => by rw [hq.2.1 r hr]; simp [C.mt, hl]
              obtain ⟨At, ct, rfl, _⟩ := hom.mxB (by omega) hl hrr
              have OM0 := Lib.hid hom
              have FN0 : Hid (C.Fn n (C.mt ts) (C.dg M P 0 0)) := Lib.hid ⟨by simp [C.mt, hl], hrr, fun c d _ _ => by rw [hmt]; simp [C.dg]⟩
              have B3 := Lib.hid b3
              clear MT hom hl hq hrr hmt b3 SQ SL
              go_wp2_with fail
              go_loopw [66] (fun v66 wr => ∃ i : Nat, ∃ rt, v66 = .int .i64 i ∧ i ≤ n ∧ Hid (C.Fn n (C.mt rt) (C.dg M P i 0)) ∧ Hid (C.Om wr w2.heap.size (.slice At n ct) rt) ∧ Hid (Below w2.heap.size w2 wr)) (fun v66 _ => n - (intOf v66).toNat)
              case atStart => exact ⟨0, ts, rfl, by omega, FN0, OM0, B3⟩
              case round =>
                clear OM0 FN0 B3
                obtain ⟨i, rt, rfl, hi, hfn, hom, hbl⟩ := hrel
                by_cases hlt2 : i < n
                · go_wp2_with fail
                  go_loopw [70] (fun v70 wr => ∃ j : Nat, ∃ rt, v70 = .int .i64 j ∧ j ≤ n ∧ Hid (C.Fn n (C.mt rt) (C.dg M P i j)) ∧ Hid (C.Om wr w2.heap.size (.slice At n ct) rt) ∧ Hid (Below w2.heap.size w2 wr)) (fun v70 _ => n - (intOf v70).toNat)
                  case atStart => exact ⟨0, rt, rfl, by omega, hfn, hom, hbl⟩
                  case round =>
                    clear hfn hom hbl
                    obtain ⟨j, rt, rfl, hj, hfn, hom, hbl⟩ := hrel
                    have hrl : rt.length = n := by have := hfn.out.len; simpa [C.mt] using this
                    have hir : i < rt.length := by omega
                    obtain ⟨gt, ct', e⟩ := hom.out.shape (by omega)
                    obtain rfl : At = some ⟨gt, 0, none⟩ := by injection e
                    clear e
                    obtain ⟨hg1, hg2, hgr⟩ := hom.out.at_out hrl
                    obtain ⟨gi, e1, hi1, hi2, hfz, hce, hst⟩ := hom.out.at_row hir
                    have y0 := hgr i hir
                    have hli : rt[i].2.2.length = n := hfn.out.row _ (List.mem_map.2 ⟨rt[i], List.getElem_mem hir, rfl⟩)
                    rw [e1, hli] at y0
                    have p1 : (0 : Int) ≤ (i : Int) := by omega
                    have p2 : (i : Int) < (n : Int) := by omega
                    have p3 : (0 : Int) ≤ (j : Int) := by omega
                    by_cases hjt : j < n
                    · have hjl : j < rt[i].2.2.length := by omega
                      have x2 := hce j hjl
                      have fz := hfz j
                      have OM2 := Lib.hid (hst j (rt[i].2.2[j] + 1))
                      have FN2 := hfn.out.step (g := C.dg M P i (j + 1)) hlt2 hjt (C.dg M P i j i j + 1) (fun c d _ _ => C.dg_inc M P i j c d)
                      have hval : C.dg M P i j i j = rt[i].2.2[j] := by rw [← hfn.out.eq i j hlt2 hjt, C.at2_rs rt hir hjl]
                      have hrange : 0 ≤ rt[i].2.2[j] ∧ rt[i].2.2[j] ≤ 1000 := by
                        have h1 := HMB.out i j hlt2 hjt
                        rw [← hval]
                        unfold C.dg
                        rw [if_neg (by omega), if_neg (by omega)]
                        exact h1
                      rw [hval, ← C.turn_mt hir] at FN2
                      have FN2 := Lib.hid FN2
                      have BB := Lib.hid (hbl.out.setCell (p := ⟨gi, j, none⟩) hi1 (.int .i64 (rt[i].2.2[j] + 1)))
                      have p4 : (j : Int) < (n : Int) := by omega
                      clear hom hfn hbl hfz hst hgr hce e1 hval hli
                      generalize rt.set i _ = rt2 at *
                      generalize rt[i].2.2[j] = xo at *
                      generalize rt[i].2.1 = cr2 at *
                      have u1 : IntKind.i64.wrap (xo + 1) = xo + 1 := by simp [IntKind.wrap, IntKind.bits, IntKind.signed]; omega
                      go_wp2
                      go_roundw
                      case rel => exact ⟨j + 1, rt2, by go_num, by omega, FN2, OM2, BB⟩
                      case measure => simp [intOf] <;> omega
                    · have q3 : decide ((j : Int) < (n : Int)) = false := decide_eq_false (by omega)
                      have hjn : j = n := by omega
                      rw [hjn] at hfn
                      clear hjn
                      have hrg := hpf.out.rg (i + 1) (by omega) (by omega)
                      obtain ⟨x, hx⟩ : ∃ x, P (i + 1) = x + 1 := ⟨P (i + 1) - 1, by omega⟩
                      have hxn : x < n := by omega
                      have hil : i < (C.asg n P).length := by rw [C.asg_len]; exact hlt2
                      obtain ⟨b4, o4, rfl, hb4, h4⟩ := C.nums_at (l := C.asg n P) (by rw [C.asg_len]; exact PR.out) (by omega)
                      have x0 := (hbl.out.cell (p := ⟨b4, o4 + i, none⟩) hb4).trans (h4 i hil)
                      rw [C.asg_get, hx, show (((x + 1 : Nat) : Int) - 1) = (x : Int) by omega] at x0
                      have hxl : x < rt[i].2.2.length := by omega
                      have x2 := hce x hxl
                      have fz := hfz x
                      have OM2 := Lib.hid (hst x 0).drew
                      have FN2 := hfn.out.step (g := C.dg M P (i + 1) 0) hlt2 hxn 0 (fun c d _ hd => C.dg_zero M P i n x c d hx hd)
                      rw [← C.turn_mt hir] at FN2
                      have FN2 := Lib.hid FN2
                      have BB := Lib.hid ((hbl.out.setCell (p := ⟨gi, x, none⟩) hi1 (.int .i64 0)).drew)
                      have p5 : (0 : Int) ≤ (x : Int) := by omega
                      have p6 : (x : Int) < (n : Int) := by omega
                      clear hom hfn hbl hfz hst hgr hce e1 h4 hrg hx hli
                      generalize rt.set i _ = rt2 at *
                      generalize rt[i].2.2[x] = xo at *
                      generalize rt[i].2.1 = cr2 at *
                      go_wp2_with fail
                      go_still_tail 9, (by kernel_rfl)
                      go_wp2
                      go_roundw
                      case rel => exact ⟨i + 1, rt2, by go_num, by omega, FN2, OM2, BB⟩
                      case measure => simp [intOf] <;> omega
                · have q3 : decide ((i : Int) < (n : Int)) = false := decide_eq_false (by omega)
                  have hqt := C.dg_sq hfn.out (by omega) HMB.out
                  have hrl : rt.length = n := by have := hfn.out.len; simpa [C.mt] using this
                  obtain ⟨A9, c9, e9, hmt9⟩ := hom.out.mxB (by omega) hrl hfn.out.row
                  obtain ⟨rfl, rfl⟩ : At = A9 ∧ ct = c9 := by injection e9 with e1 _ e3; exact ⟨e1, e3⟩
                  have S1 := Lib.hid (solve_sq n At ct rt wr hmt9 hqt hrl)
                  have PR4 := Lib.hid ((PR.out.below hbl.out (Nat.le_refl _)).more hbl.out.size)
                  have B4 := Lib.hid (B2.out.trans (hbl.out.mono B2.out.size))
                  clear hmt9 hqt hom e9 hbl PR
                  go_wp2_with fail
                  refine S1.out.mono ?_
                  rintro e' w4 ⟨Aa, ca, N, rfl, b4, hra, hba⟩
                  have E1 : Hid (C.asg n P = C.asg n N) := Lib.hid (C.dg_fin hfn.out (by omega) HMB.out hpf.out hba)
                  have SM := Lib.hid (same_asg w4.heap.size Aa Aq ca cq n N P (by omega) E1.out w4 hra ((PR4.out.below b4 (Nat.le_refl _)).more b4.size))
                  have B6 := Lib.hid (B4.out.trans (b4.mono B4.out.size))
                  clear S1 hra hba b4 PR4 E1 hfn
                  go_wp2_with fail
                  refine SM.out.mono ?_
                  rintro e' _ ⟨rfl, m1, rfl⟩
                  go_wp2_with fail
                  refine (awake_any _).mono ?_
                  rintro e' w9 ⟨rfl, b9⟩
                  go_wp2_with fail
                  go_ret
                  have B7 := below_drewN B6.out m1
                  exact ⟨rfl, B7.trans (b9.mono B7.size)⟩
end Go.Proofs.Ytnekhlklflgodaa
