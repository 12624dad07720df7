/-
  The walks of layer 29: a row takes the least column (lower). By an AI agent.
-/
import Derived.Test.YtoemhphgnpedmaaMov
namespace Go.Proofs.Ytoemhphgnpedmaa
open Go.RowKit

theorem C.zero56 : ∀ w : World, (zeroValue 68).run Try.prog w = .ok (.agg (C.arr 41 fun _ => .bool false)) w := fun w => by kernel_rfl
def A.tg (c : Nat → Nat → Int) (u v : Nat → Int) (r j : Nat) : Prop := u r + v j = c r j
/-- What lower leaves. -/
def C.LowOut (n : Nat) (c : Nat → Nat → Int) (u v : Nat → Int) (q : Nat → Nat) (R : Nat) (w w' : World) (e : Ending) : Prop :=
  ∃ p' q', e = .returned (.agg (C.stA u v p' q')) ∧ A.PM n (A.tg c u v) q' p' ∧ A.LeastTo n (A.tg c u v) q' (R + 1) ∧ (∀ r, r < R → q' r = q r) ∧ Below w.heap.size w w'
/-- No matching that fits and keeps the rows before has one of the columns below m. -/
def A.NoneTo (n : Nat) (tg : Nat → Nat → Prop) (q : Nat → Nat) (R m : Nat) : Prop :=
  ∀ j, 1 ≤ j → j < m → ∀ N, A.Pf n N → (∀ r, 1 ≤ r → r ≤ n → tg r (N r)) → (∀ r', 1 ≤ r' → r' < R → N r' = q r') → N R ≠ j
theorem A.none_step {n : Nat} {tg : Nat → Nat → Prop} {q : Nat → Nat} {R m : Nat} (h : A.NoneTo n tg q R m) (h2 : ∀ N, A.Pf n N → (∀ r, 1 ≤ r → r ≤ n → tg r (N r)) → (∀ r', 1 ≤ r' → r' < R → N r' = q r') → N R ≠ m) : A.NoneTo n tg q R (m + 1) := by
  intro j h1 h3
  by_cases e : j = m
  · subst e; exact h2
  · exact h j h1 (by omega)
theorem A.least_next {n : Nat} {tg : Nat → Nat → Prop} {q q' : Nat → Nat} {R m : Nat} (h : A.LeastTo n tg q R) (hR : 1 ≤ R ∧ R ≤ n) (hn : A.NoneTo n tg q R m) (e1 : ∀ r, 1 ≤ r → r < R → q' r = q r) (e2 : q' R = m) : A.LeastTo n tg q' (R + 1) := by
  intro r h1 h2 h3 N hN ht hag
  by_cases e : r = R
  · subst e
    rw [e2]
    have hb := hN.rg r h1 h3
    by_cases hl : m ≤ N r
    · exact hl
    · exact absurd rfl (hn (N r) hb.1 (by omega) N hN ht (fun r' a b => by rw [hag r' a b, e1 r' a b]))
  · exact A.least_congr h e1 r h1 (by omega) h3 N hN ht hag
/-- What lies in memory in lower. -/
structure C.LJ (w wr : World) (u v : Nat → Int) (p q : Nat → Nat) : Prop where
  st : C.St wr w.heap.size u v p q
  rs : C.St wr (w.heap.size + 1) (fun _ => 0) (fun _ => 0) (fun _ => 0) (fun _ => 0)
  bl : Below w.heap.size w wr
theorem C.LJ.later {w wr w' : World} {u v : Nat → Int} {p q : Nat → Nat} (h : C.LJ w wr u v p q) (hb : Below wr.heap.size wr w') : C.LJ w w' u v p q :=
  ⟨h.st.below hb h.st.lt, h.rs.below hb h.rs.lt, h.bl.trans (hb.mono h.bl.size)⟩
theorem C.LJ.new (w : World) (u v : Nat → Int) (p q : Nat → Nat) : C.LJ w ((w.alloc (.cells (C.stA u v p q) 52)).alloc (.cells (C.stA (fun _ => 0) (fun _ => 0) (fun _ => 0) (fun _ => 0)) 52)) u v p q := by
  have h1 := C.heap_new (w.alloc (.cells (C.stA u v p q) 52)) (.cells (C.stA (fun _ => 0) (fun _ => 0) (fun _ => 0) (fun _ => 0)) 52)
  simp only [World.size_alloc] at h1
  exact ⟨(Below.heap_alloc _ _ _ (by simp)).trans (C.heap_new w _), h1, ((Below.refl _ w).alloc (Nat.le_refl _) _).alloc (by simp) _⟩

set_option maxRecDepth 100000 in
set_option maxHeartbeats 16000000 in
theorem lower_any (B : Nat) (Ad : Option Addr) (cp : Nat) (rs : List (Option Addr × Nat × List Int)) (u v : Nat → Int) (p q : Nat → Nat) (R : Nat) (w : World) (h : C.Mx w B Ad rs) (hq : C.Sq (C.mt rs)) (hB : B ≤ w.heap.size)
    (hpm : A.PM rs.length (A.tg (C.cst (C.mt rs)) u v) q p) (hle : A.LeastTo rs.length (A.tg (C.cst (C.mt rs)) u v) q R) (hR : 1 ≤ R ∧ R ≤ rs.length)
    (hbu : ∀ r, 1 ≤ r → r ≤ rs.length → 0 ≤ u r ∧ u r ≤ 50000000) (hbv : ∀ j, 1 ≤ j → j ≤ rs.length → -50000000 ≤ v j ∧ v j ≤ 0) :
    Calls Try.prog 36 #[.agg (C.stA u v p q), .slice Ad rs.length cp, .int .i64 R] w fun e w' => C.LowOut rs.length (C.cst (C.mt rs)) u v q R w w' e := by
  obtain ⟨c, hc⟩ : ∃ c, C.cst (C.mt rs) = c := ⟨_, rfl⟩
  rw [hc] at hpm hle ⊢
  have hn40 : rs.length ≤ 40 := by have := hq.1; simp [C.mt] at this; exact this
  have SLK : Hid (∀ (wr : World) (m : Nat), C.LJ w wr u v p q → 1 ≤ m → m ≤ rs.length →
      Calls Try.prog 46 #[.pointer (some ⟨w.heap.size, 0, none⟩), .slice Ad rs.length cp, .int .i64 R, .int .i64 m] wr fun e w'' => e = .returned (.int .i64 (c R m - u R - v m)) ∧ ∃ n, w'' = wr.drewN n) := Lib.hid (fun wr m hj h1 h2 => by
    rw [← hc]
    have a1 := hbu R hR.1 hR.2
    have a2 := hbv m h1 h2
    exact slack_any B w.heap.size Ad cp rs u v p q R m wr (h.below hj.bl hB) hj.st hq hR.1 hR.2 h1 h2 (by omega) (by omega) (by omega) (by omega))
  have MOV : Hid (∀ (b vb : Nat) (fr : Nat) (p q : Nat → Nat) (vis : Nat → Bool) (r : Nat) (w' : World), Below w.heap.size w w' → w.heap.size ≤ b → w.heap.size ≤ vb → b ≠ vb → (1 ≤ fr ∧ fr ≤ rs.length) → C.St w' b u v p q → C.Br w' vb vis → vis fr = false → (∀ j, 1 ≤ j → j ≤ rs.length → j ≠ fr → 1 ≤ p j ∧ p j ≤ rs.length) → (1 ≤ r ∧ r ≤ rs.length) →
      Calls Try.prog 47 #[.pointer (some ⟨b, 0, none⟩), .slice Ad rs.length cp, .int .i64 r, .int .i64 R, .int .i64 fr, .pointer (some ⟨vb, 0, none⟩)] w' fun e w'' => C.MovOut rs.length (A.tg c u v) b vb u v R fr p q vis r w' w'' e) := Lib.hid (fun b vb fr p q vis r w' hb h1 h2 h3 h4 h5 h6 h7 h8 h9 =>
    moves_any B b vb Ad cp rs c hc hq u v R fr (by omega) (by omega) h3 hbu hbv h4 (by omega) _ p q vis r w' (Nat.le_refl _) (h.below hb hB) (Nat.le_trans hB hb.size) h5 h6 h7 h8 h9)
  have PM0 := Lib.hid hpm
  have LE0 := Lib.hid hle
  have hcR := hpm.cr R hR.1 hR.2
  have J0 := Lib.hid (C.LJ.new w u v p q)
  have x0 := J0.out.st.q_ (i := R) (by omega)
  obtain ⟨hR1, hR2⟩ := hR
  obtain ⟨old, hold⟩ : ∃ old, q R = old := ⟨_, rfl⟩
  rw [hold] at hcR x0
  obtain ⟨ho1, ho2, ho3, -⟩ := hcR
  have HOLD := Lib.hid hold
  have HO3 := Lib.hid ho3
  have qR1 : (0 : Int) ≤ (R : Int) := by omega
  have qR2 : (R : Int) < 41 := by omega
  clear h hq hpm hle hbu hbv hc hold ho3
  go_enter Try.func36, Try.ntmps36
  go_wp2_with (first | (refine wpList_alloc_at rfl 52 rfl _ C.zero45 _ rfl ?_))
  clear x0
  go_loopw [8] (fun v8 wr => ∃ j : Nat, v8 = .int .i64 j ∧ 1 ≤ j ∧ j ≤ old ∧ Hid (A.NoneTo rs.length (A.tg c u v) q R j) ∧ Hid (C.LJ w wr u v p q)) (fun v8 _ => old - (intOf v8).toNat)
  case atStart => exact ⟨1, rfl, by omega, ho1, Lib.hid (fun j h1 h2 => by omega), J0⟩
  case round =>
    clear J0
    obtain ⟨j, rfl, hj1, hj2, hno, hj⟩ := hrel
    by_cases hlt : j < old
    · have hjn : j ≤ rs.length := by omega
      have qj1 : (0 : Int) ≤ (j : Int) := by omega
      have qj2 : (j : Int) < 41 := by omega
      have sl := Lib.hid (SLK.out wr j hj.out hj1 hjn)
      have xp := hj.out.st.p_ (i := j) (by omega)
      obtain ⟨x, hx⟩ : ∃ x, c R j - u R - v j = x := ⟨_, rfl⟩
      rw [hx] at sl
      by_cases hx0 : x = 0
      · have htg : A.tg c u v R j := by unfold A.tg; omega
        have HTG := Lib.hid htg
        have hx1 : (x != 0) = false := by simp [hx0]
        have HX0 := Lib.hid hx0
        clear hx htg hx0
        by_cases hpR : p j < R
        · have NO := Lib.hid (A.none_step hno.out (fun N hN ht hag => A.lower_skip PM0.out ⟨hR1, hR2⟩ ⟨hj1, hjn⟩ (.inr hpR) hN ht hag))
          have hpR1 : decide (p j < R) = true := decide_eq_true hpR
          clear hno hpR
          generalize p j = pj at *
          go_wp2_with fail
          refine sl.out.mono ?_
          rintro e' w1 ⟨rfl, nd, rfl⟩
          have J2 := Lib.hid (hj.out.later (below_drewN (Below.refl _ _) nd))
          clear hj
          go_wp2
          go_roundw
          case rel => exact ⟨j + 1, by go_num, by omega, hlt, NO, J2⟩
          case measure => simp [intOf] <;> omega
        · have hpR1 : decide (p j < R) = false := decide_eq_false hpR
          have hpj := PM0.out.pc j hj1 hjn
          have hgt : R < p j := by
            have : p j ≠ R := fun e => by have := hpj.2.2; rw [e, HOLD.out] at this; omega
            omega
          have HGT := Lib.hid hgt
          have HPJ := Lib.hid hpj
          have HOLE := Lib.hid (A.take_hole PM0.out ⟨hR1, hR2⟩ ⟨hj1, hjn⟩ hgt HTG.out)
          clear hpR hgt hpj
          go_wp2_with fail
          refine sl.out.mono ?_
          rintro e' w1 ⟨rfl, nd, rfl⟩
          have J2 := Lib.hid (hj.out.later (below_drewN (Below.refl _ _) nd))
          have st2 := J2.out.st
          have Z2 : C.St ((wr.drewN nd).alloc (.cells (C.stA (fun _ => 0) (fun _ => 0) (fun _ => 0) (fun _ => 0)) 52)) wr.heap.size (fun _ => 0) (fun _ => 0) (fun _ => 0) (fun _ => 0) := C.heap_new (wr.drewN nd) _
          clear hj sl
          have hbg : (C.arr 41 fun _ => Value.bool false)[j]? = some (.bool false) := C.arr_get _ (by omega)
          have hset : (C.arr 41 fun _ => Value.bool false).setIfInBounds j (.bool true) = C.arr 41 (fun i => Value.bool (A.upd (fun _ => false) j true i)) := by
            rw [C.arr_set _ _ (by omega)]
            exact C.arr_congr (fun i _ => by unfold A.upd; split <;> rfl)
          have hne1 : 82 + j ≠ 123 + R := by omega
          go_wp2_with (first | (refine wpList_load_st rfl (.tmp 3) rfl w.heap.size rfl u v p q st2 ?_) | (refine wpList_alloc_at rfl 52 rfl _ C.zero45 _ rfl ?_) | (refine wpList_store_st rfl (.tmp 9) (.tmp 34) rfl wr.heap.size rfl u v p q rfl _ _ _ _ Z2 ?_; intro w6 hs6 hg6 hz6; have hlt6 : wr.heap.size < w6.heap.size := hs6.lt; have hs7 := hs6.alloc (.cells (C.arr 41 (fun i => Value.bool (A.upd (fun _ => false) j true i))) 68); have x7p := hs6.p_ (i := j) (by omega); have x7q := hs6.q_ (i := R) (by omega); have f7p := hs6.fz (82 + j); have f7q := hs6.fz (123 + R); have hs8 := Lib.hid hs7; clear hs7; have hg7 := Lib.hid hg6; have hz7 := Lib.hid hz6; clear hg6 hz6) | (refine wpList_alloc_at rfl 68 rfl _ C.zero56 _ rfl ?_))
          have hbW : Below w.heap.size w (w6.alloc (.cells (C.arr 41 (fun i => Value.bool (A.upd (fun _ => false) j true i))) 68)) := by
            have h1 := (J2.out.bl.alloc (o := .cells (C.stA (fun _ => 0) (fun _ => 0) (fun _ => 0) (fun _ => 0)) 52) J2.out.bl.size)
            have h2 := below_of_only (B := w.heap.size) hg7.out J2.out.bl.size (by simp; have := J2.out.bl.size; simp at this; omega)
            have h3 := h1.trans h2
            exact h3.alloc h3.size _
          have LJW : C.LJ w (w6.alloc (.cells (C.arr 41 (fun i => Value.bool (A.upd (fun _ => false) j true i))) 68)) u v p q := by
            have hw1 : w.heap.size + 1 < wr.heap.size := J2.out.rs.lt
            have e : ∀ i, i < wr.heap.size → (w6.alloc (.cells (C.arr 41 (fun i => Value.bool (A.upd (fun _ => false) j true i))) 68)).heap[i]? = (wr.drewN nd).heap[i]? := fun i hi =>
              (Below.heap_alloc _ _ _ (by omega)).trans ((hg7.out.block i (by simp; omega) (by simp; omega)).trans (Below.heap_alloc _ _ _ hi))
            exact ⟨(e _ (by omega)).trans J2.out.st, (e _ (by omega)).trans J2.out.rs, hbW⟩
          have MJ7 : C.MJ (w6.alloc (.cells (C.arr 41 (fun i => Value.bool (A.upd (fun _ => false) j true i))) 68)) (w6.alloc (.cells (C.arr 41 (fun i => Value.bool (A.upd (fun _ => false) j true i))) 68)) wr.heap.size w6.heap.size u v p q (A.upd (fun _ => false) j true) := ⟨hs8.out, C.heap_new w6 _, C.Two.refl _ _ _, by omega⟩
          have MJ8 := ((MJ7.set_p (i := j) (by omega) R).set_q (i := R) (by omega) j)
          rw [World.setCell_alloc_past _ _ _ _ hlt6, World.setCell_alloc_past _ _ _ _ (by simp [World.setCell]; exact hlt6)] at MJ8
          have MJ8 := Lib.hid MJ8
          have LJH := Lib.hid LJW
          have HBW := Lib.hid hbW
          have hw0 : w.heap.size ≤ wr.heap.size := J2.out.bl.size
          have hvf : A.upd (fun _ => false) j true old = false := by rw [A.upd_ne _ _ (by omega)]
          have HOL := HOLE.out
          rw [HOLD.out] at HOL
          have MV := Lib.hid (MOV.out wr.heap.size w6.heap.size old (A.upd p j R) (A.upd q R j) (A.upd (fun _ => false) j true) (p j) _ (hbW.trans ((MJ8.out.tw.below (B := w.heap.size) hw0 (by omega) hbW.size).mono (Nat.le_refl _))) hw0 (by omega) (by omega) ⟨ho1, ho2⟩ MJ8.out.st MJ8.out.vs hvf (fun j' h1 h2 h3 => by
            have := HOL.pc j' h1 h2 h3
            exact ⟨this.1, this.2.1⟩) ⟨HPJ.out.1, HPJ.out.2.1⟩)
          have HOL := Lib.hid HOL
          clear LJW hbW MJ7 hvf x7p x7q f7p f7q st2 Z2 xp hs6 hbg hset hne1
          go_wp2_with fail
          refine MV.out.mono ?_
          rintro e' w8 ⟨vis', hres⟩
          rcases hres with ⟨rfl, cs, hau, hj2⟩ | ⟨rfl, hsh, hj2⟩
          · have PM9 := Lib.hid (A.aug_pm hau _ HOL.out)
            have LE9 : Hid (A.LeastTo rs.length (A.tg c u v) (A.putC (A.upd p j R) (p j) cs (A.upd q R j)) (R + 1)) := Lib.hid (A.least_next LE0.out ⟨hR1, hR2⟩ hno.out (fun r h1 h2 => by
              rw [A.putC_out hau HGT.out (by omega), A.upd_ne _ _ (by omega)]) (by rw [A.putC_out hau HGT.out (Nat.le_refl _), A.upd_same]))
            have KP9 : Hid (∀ r, r < R → A.putC (A.upd p j R) (p j) cs (A.upd q R j) r = q r) := Lib.hid (fun r h => by rw [A.putC_out hau HGT.out (by omega), A.upd_ne _ _ (by omega)])
            have MJ9 := MJ8.out.after hj2
            have st9 := MJ9.st
            have rs9 : C.St w8 (w.heap.size + 1) (fun _ => 0) (fun _ => 0) (fun _ => 0) (fun _ => 0) := (MJ9.tw.block _ LJH.out.rs.lt (by have := J2.out.rs.lt; simp at this; omega) (by have := J2.out.rs.lt; simp at this; omega)).trans LJH.out.rs
            have BL9 := Lib.hid (HBW.out.trans (MJ9.tw.below (B := w.heap.size) hw0 (by omega) HBW.out.size))
            clear hau hj2 MV MJ8 MJ9 HOL HOLE hno J2
            generalize A.putC (A.upd p j R) (p j) cs (A.upd q R j) = q9 at *
            generalize A.putP (A.upd p j R) (p j) cs (A.upd p j R) = p9 at *
            go_wp2_with (first | (refine wpList_load_st rfl (.tmp 9) rfl wr.heap.size rfl u v p9 q9 st9 ?_) | (refine wpList_store_st rfl (.tmp 6) (.tmp 54) rfl (w.heap.size + 1) rfl u v p9 q9 rfl _ _ _ _ rs9 ?_; intro w10 hs10 hg10 hz10))
            have hld := C.run_load_st hs10
            have BL10 := Lib.hid (BL9.out.trans (below_of_only (B := w.heap.size) hg10 (by omega) BL9.out.size))
            refine bodyPost_ret (v := .agg (C.stA u v p9 q9)) (results_cell (t := 6) (ty := 52) rfl rfl hld) rfl ?_
            exact ⟨p9, q9, rfl, PM9.out, LE9.out, KP9.out, BL10.out⟩
          · have NO := Lib.hid (A.none_step hno.out (fun N hN ht hag => A.shut_none PM0.out ⟨hR1, hR2⟩ ⟨hj1, hjn⟩ HGT.out (by rw [HOLD.out]; exact hsh) hN ht hag))
            have J9 : Hid (C.LJ w w8 u v p q) := Lib.hid (by
              have MJ9 := MJ8.out.after hj2
              have a1 := J2.out.rs.lt
              simp at a1
              exact ⟨(MJ9.tw.block _ LJH.out.st.lt (by omega) (by omega)).trans LJH.out.st, (MJ9.tw.block _ LJH.out.rs.lt (by omega) (by omega)).trans LJH.out.rs, HBW.out.trans (MJ9.tw.below (B := w.heap.size) hw0 (by omega) HBW.out.size)⟩)
            clear hsh hj2 MV MJ8 HOL HOLE hno J2 LJH HBW
            go_wp2
            go_roundw
            case rel => exact ⟨j + 1, by go_num, by omega, hlt, NO, J9⟩
            case measure => simp [intOf] <;> omega
      · have NO := Lib.hid (A.none_step hno.out (fun N hN ht hag => A.lower_skip PM0.out ⟨hR1, hR2⟩ ⟨hj1, hjn⟩ (.inl (fun h => hx0 (by unfold A.tg at h; omega))) hN ht hag))
        have hx1 : (x != 0) = true := bne_iff_ne.2 hx0
        clear hno hx hx0
        go_wp2_with fail
        refine sl.out.mono ?_
        rintro e' w1 ⟨rfl, nd, rfl⟩
        have J9 := Lib.hid (hj.out.later (below_drewN (Below.refl _ _) nd))
        clear hj
        go_wp2
        go_roundw
        case rel => exact ⟨j + 1, by go_num, by omega, hlt, NO, J9⟩
        case measure => simp [intOf] <;> omega
    · obtain rfl : j = old := by omega
      have LE9 := Lib.hid (A.least_next (q' := q) LE0.out ⟨hR1, hR2⟩ hno.out (fun _ _ _ => rfl) HOLD.out)
      have st9 := hj.out.st
      have rs9 := hj.out.rs
      have BL9 := Lib.hid hj.out.bl
      clear hj hno
      go_wp2_with (first | (refine wpList_load_st rfl (.tmp 3) rfl w.heap.size rfl u v p q st9 ?_) | (refine wpList_store_st rfl (.tmp 6) (.tmp 55) rfl (w.heap.size + 1) rfl u v p q rfl _ _ _ _ rs9 ?_; intro w10 hs10 hg10 hz10))
      have hld := C.run_load_st hs10
      have BL10 := Lib.hid (BL9.out.trans (below_of_only (B := w.heap.size) hg10 (by omega) BL9.out.size))
      refine bodyPost_ret (v := .agg (C.stA u v p q)) (results_cell (t := 6) (ty := 52) rfl rfl hld) rfl ?_
      exact ⟨p, q, rfl, PM0.out, LE9.out, fun _ _ => rfl, BL10.out⟩
end Go.Proofs.Ytoemhphgnpedmaa
