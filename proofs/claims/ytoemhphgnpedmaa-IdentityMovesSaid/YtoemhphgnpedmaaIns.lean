/-
  The walks of layer 29: one more row (insert). By an AI agent.
-/
import Derived.Deep.LoopGhost
import Derived.Test.YtoemhphgnpedmaaSl
namespace Go.Proofs.Ytoemhphgnpedmaa
open Go.RowKit

theorem C.z41 : C.arr 41 (fun _ => .int .i64 0) = #[.int .i64 0, .int .i64 0, .int .i64 0, .int .i64 0, .int .i64 0, .int .i64 0, .int .i64 0, .int .i64 0, .int .i64 0, .int .i64 0, .int .i64 0, .int .i64 0, .int .i64 0, .int .i64 0, .int .i64 0, .int .i64 0, .int .i64 0, .int .i64 0, .int .i64 0, .int .i64 0, .int .i64 0, .int .i64 0, .int .i64 0, .int .i64 0, .int .i64 0, .int .i64 0, .int .i64 0, .int .i64 0, .int .i64 0, .int .i64 0, .int .i64 0, .int .i64 0, .int .i64 0, .int .i64 0, .int .i64 0, .int .i64 0, .int .i64 0, .int .i64 0, .int .i64 0, .int .i64 0, .int .i64 0] := by rfl
theorem C.zb41 : C.arr 41 (fun _ => .bool false) = #[.bool false, .bool false, .bool false, .bool false, .bool false, .bool false, .bool false, .bool false, .bool false, .bool false, .bool false, .bool false, .bool false, .bool false, .bool false, .bool false, .bool false, .bool false, .bool false, .bool false, .bool false, .bool false, .bool false, .bool false, .bool false, .bool false, .bool false, .bool false, .bool false, .bool false, .bool false, .bool false, .bool false, .bool false, .bool false, .bool false, .bool false, .bool false, .bool false, .bool false, .bool false] := by rfl
theorem C.Mx.grown {w w' : World} {B b : Nat} {A : Option Addr} {rs : List (Option Addr × Nat × List Int)} (h : C.Mx w B A rs) (hg : w.grownBy w' (some b)) (hB : B ≤ b) (hw : B ≤ w.heap.size) : C.Mx w' B A rs :=
  h.below (below_of_only hg hB hw) (Nat.le_refl _)
/-- What lies in memory while a row is inserted. -/
structure C.IJ (w wr : World) (b : Nat) (u v : Nat → Int) (p q : Nat → Nat) (L : Nat → Int) (F : Nat → Nat) (dn : Nat → Bool) : Prop where
  st : C.St wr b u v p q
  ls : C.Ar wr w.heap.size L
  fr : C.Ar wr (w.heap.size + 1) (fun j => (F j : Int))
  dn : C.Br wr (w.heap.size + 1 + 1) dn
  gr : w.grownBy wr (some b)
  lt : b < w.heap.size
section
variable {w wr : World} {b : Nat} {u v : Nat → Int} {p q : Nat → Nat} {L : Nat → Int} {F : Nat → Nat} {dn : Nat → Bool} {i : Nat}
theorem C.IJ.drewN (h : C.IJ w wr b u v p q L F dn) (n : Nat) : C.IJ w (wr.drewN n) b u v p q L F dn := ⟨h.st, h.ls, h.fr, h.dn, only_drewN h.gr n, h.lt⟩
theorem C.IJ.drew (h : C.IJ w wr b u v p q L F dn) : C.IJ w wr.drew b u v p q L F dn := ⟨h.st, h.ls, h.fr, h.dn, only_drew h.gr, h.lt⟩
theorem C.IJ.set_L (h : C.IJ w wr b u v p q L F dn) (hi : i ≤ 40) (x : Int) : C.IJ w (wr.setCell ⟨w.heap.size, i, none⟩ (.int .i64 x)) b u v p q (A.upd L i x) F dn := by
  have := h.lt
  exact ⟨h.st.other (by show b ≠ w.heap.size; omega) _, h.ls.set hi x, h.fr.other (by show w.heap.size + 1 ≠ w.heap.size; omega) _, h.dn.other (by show w.heap.size + 1 + 1 ≠ w.heap.size; omega) _, only_setCell h.gr (.inr (by show w.heap.size ≤ w.heap.size; omega)) _, h.lt⟩
theorem C.IJ.set_F (h : C.IJ w wr b u v p q L F dn) (hi : i ≤ 40) (x : Nat) : C.IJ w (wr.setCell ⟨w.heap.size + 1, i, none⟩ (.int .i64 x)) b u v p q L (A.upd F i x) dn := by
  have := h.lt
  refine ⟨h.st.other (by show b ≠ w.heap.size + 1; omega) _, h.ls.other (by show w.heap.size ≠ w.heap.size + 1; omega) _, ?_, h.dn.other (by show w.heap.size + 1 + 1 ≠ w.heap.size + 1; omega) _, only_setCell h.gr (.inr (by show w.heap.size ≤ w.heap.size + 1; omega)) _, h.lt⟩
  have := h.fr.set hi (x : Int)
  rw [show A.upd (fun j => (F j : Int)) i (x : Int) = fun j => ((A.upd F i x j : Nat) : Int) from by funext j; unfold A.upd; split <;> rfl] at this
  exact this
theorem C.IJ.set_dn (h : C.IJ w wr b u v p q L F dn) (hi : i ≤ 40) (x : Bool) : C.IJ w (wr.setCell ⟨w.heap.size + 1 + 1, i, none⟩ (.bool x)) b u v p q L F (A.upd dn i x) := by
  have := h.lt
  exact ⟨h.st.other (by show b ≠ w.heap.size + 1 + 1; omega) _, h.ls.other (by show w.heap.size ≠ w.heap.size + 1 + 1; omega) _, h.fr.other (by show w.heap.size + 1 ≠ w.heap.size + 1 + 1; omega) _, h.dn.set hi x, only_setCell h.gr (.inr (by show w.heap.size ≤ w.heap.size + 1 + 1; omega)) _, h.lt⟩
theorem C.IJ.set_u (h : C.IJ w wr b u v p q L F dn) (hi : i ≤ 40) (x : Int) : C.IJ w (wr.setCell ⟨b, i, none⟩ (.int .i64 x)) b (A.upd u i x) v p q L F dn := by
  have := h.lt
  exact ⟨h.st.set_u hi x, h.ls.other (by show w.heap.size ≠ b; omega) _, h.fr.other (by show w.heap.size + 1 ≠ b; omega) _, h.dn.other (by show w.heap.size + 1 + 1 ≠ b; omega) _, only_setCell h.gr (.inl rfl) _, h.lt⟩
theorem C.IJ.set_v (h : C.IJ w wr b u v p q L F dn) (hi : i ≤ 40) (x : Int) : C.IJ w (wr.setCell ⟨b, 41 + i, none⟩ (.int .i64 x)) b u (A.upd v i x) p q L F dn := by
  have := h.lt
  exact ⟨h.st.set_v hi x, h.ls.other (by show w.heap.size ≠ b; omega) _, h.fr.other (by show w.heap.size + 1 ≠ b; omega) _, h.dn.other (by show w.heap.size + 1 + 1 ≠ b; omega) _, only_setCell h.gr (.inl rfl) _, h.lt⟩
theorem C.IJ.set_p (h : C.IJ w wr b u v p q L F dn) (hi : i ≤ 40) (x : Nat) : C.IJ w (wr.setCell ⟨b, 82 + i, none⟩ (.int .i64 x)) b u v (A.upd p i x) q L F dn := by
  have := h.lt
  exact ⟨h.st.set_p hi x, h.ls.other (by show w.heap.size ≠ b; omega) _, h.fr.other (by show w.heap.size + 1 ≠ b; omega) _, h.dn.other (by show w.heap.size + 1 + 1 ≠ b; omega) _, only_setCell h.gr (.inl rfl) _, h.lt⟩
end
theorem C.IJ.new {w : World} {b : Nat} {u v : Nat → Int} {p q : Nat → Nat} (hs : C.St w b u v p q) :
    C.IJ w (((w.alloc (.cells (C.arr 41 fun _ => .int .i64 0) 50)).alloc (.cells (C.arr 41 fun _ => .int .i64 0) 50)).alloc (.cells (C.arr 41 fun _ => .bool false) 68)) b u v p q (fun _ => 0) (fun _ => 0) (fun _ => false) := by
  have h1 := C.heap_new (w.alloc (.cells (C.arr 41 fun _ => .int .i64 0) 50)) (.cells (C.arr 41 fun _ => .int .i64 0) 50)
  have h2 := C.heap_new ((w.alloc (.cells (C.arr 41 fun _ => .int .i64 0) 50)).alloc (.cells (C.arr 41 fun _ => .int .i64 0) 50)) (.cells (C.arr 41 fun _ => .bool false) 68)
  simp only [World.size_alloc] at h1 h2
  refine ⟨((hs.alloc _).alloc _).alloc _, ?_, ?_, h2, only_alloc (only_alloc (only_alloc (World.grownBy.refl w _) _) _) _, hs.lt⟩
  · exact (Below.heap_alloc _ _ _ (by simp <;> omega)).trans ((Below.heap_alloc _ _ _ (by simp)).trans (C.heap_new w _))
  · exact (Below.heap_alloc _ _ _ (by simp)).trans h1
/-- Bounds of the numbers along the path. -/
theorem A.dij_bounds {n k : Nat} {c : Nat → Nat → Int} {u v : Nat → Int} {p : Nat → Nat} {dn : Nat → Bool} {L : Nat → Int} {F : Nat → Nat} {a t : Nat} {s : Int} {rk : Nat → Nat} (h : A.Dij n c k u v p dn L F a t s rk) (hk : k < n) (hn : n ≤ 40) :
    (∀ r, 1 ≤ r → r ≤ n → 0 ≤ u r ∧ u r ≤ 50000000) ∧ (∀ j, 1 ≤ j → j ≤ n → -50000000 ≤ v j ∧ v j ≤ 0) := by
  have hkm : (k : Int) * A.M ≤ 40 * A.M := Int.mul_le_mul_of_nonneg_right (by omega) (by unfold A.M; omega)
  have hs := h.sle
  unfold A.M at hkm hs
  refine ⟨fun r h1 h2 => ?_, fun j h1 h2 => ?_⟩
  · have := h.bu r h1 h2; unfold A.M at this; omega
  · have := h.bv j h1 h2; unfold A.M at this; omega
/-- What insert leaves. -/
def C.InsOut (n : Nat) (c : Nat → Nat → Int) (k b : Nat) (q : Nat → Nat) (w w' : World) (e : Ending) : Prop := e = .returned (.tuple #[]) ∧ ∃ (u v : Nat → Int) (p : Nat → Nat), C.St w' b u v p q ∧ A.Hun n c (k + 1) u v p ∧ (-((k + 1 : Nat) * A.M) ≤ v 0 ∧ v 0 ≤ 0) ∧ w.grownBy w' (some b)

set_option maxRecDepth 100000 in
set_option maxHeartbeats 16000000 in
theorem insert_any (B b : Nat) (Ad : Option Addr) (cp : Nat) (rs : List (Option Addr × Nat × List Int)) (c : Nat → Nat → Int) (hc : C.cst (C.mt rs) = c) (u v : Nat → Int) (p q : Nat → Nat) (k : Nat) (w : World) (h : C.Mx w B Ad rs) (hs : C.St w b u v p q) (hq : C.Sq (C.mt rs)) (hB : B ≤ b)
    (hk : k < rs.length) (hun : A.Hun rs.length c k u v p) (hv0 : -(k * A.M) ≤ v 0 ∧ v 0 ≤ 0) :
    Calls Try.prog 45 #[.pointer (some ⟨b, 0, none⟩), .slice Ad rs.length cp, .int .i64 ((k + 1 : Nat) : Int)] w fun e w' => C.InsOut rs.length c k b q w w' e := by
  have hl : (C.mt rs).length = rs.length := by simp [C.mt]
  have hn40 : rs.length ≤ 40 := by have := hq.1; omega
  have HC : Hid (∀ r j, 1 ≤ r → r ≤ rs.length → 1 ≤ j → j ≤ rs.length → 0 ≤ c r j ∧ c r j ≤ A.M) := Lib.hid (fun r j h1 h2 h3 h4 => by rw [← hc]; exact C.cst_range hq r j h1 (by omega) h3 (by omega))
  have SLK : Hid (∀ (w' : World) (u v : Nat → Int) (p : Nat → Nat) (r j : Nat), w.grownBy w' (some b) → C.St w' b u v p q → 1 ≤ r → r ≤ rs.length → 1 ≤ j → j ≤ rs.length → -100000000 ≤ u r → u r ≤ 100000000 → -100000000 ≤ v j → v j ≤ 100000000 →
      Calls Try.prog 46 #[.pointer (some ⟨b, 0, none⟩), .slice Ad rs.length cp, .int .i64 r, .int .i64 j] w' fun e w'' => e = .returned (.int .i64 (c r j - u r - v j)) ∧ ∃ n, w'' = w'.drewN n) := Lib.hid (fun w' u v p r j hg hst h1 h2 h3 h4 h5 h6 h7 h8 => by
    rw [← hc]
    exact slack_any B b Ad cp rs u v p q r j w' (h.grown hg hB (Nat.le_trans hB (Nat.le_of_lt hs.lt))) hst hq h1 h2 h3 h4 h5 h6 h7 h8)
  have J0 := C.IJ.new hs
  rw [C.z41, C.zb41] at J0
  have J0' := Lib.hid J0
  have HUN := Lib.hid hun
  have HV00 := Lib.hid hv0
  have q9 : (k : Int) < 40 := by omega
  have fz0 := hs.fz (82 + 0)
  have xz0 := hs.p_ (i := 0) (by omega)
  have hblt := hs.lt
  clear J0 hc hq hl h hun hv0 hs
  go_enter Try.func45, Try.ntmps45
  go_wp2
  go_loopw [16] (fun v16 wr => ∃ i : Nat, v16 = .int .i64 i ∧ i ≤ 41 ∧ Hid (C.IJ w wr b u v p q (fun j => if j < i then A.never else 0) (fun _ => 0) (fun _ => false))) (fun v16 _ => 41 - (intOf v16).toNat)
  case atStart => exact ⟨0, rfl, by omega, J0'⟩
  case round =>
    clear J0'
    obtain ⟨i, rfl, hi, hij⟩ := hrel
    by_cases hlt : i < 41
    · have q1 : (0 : Int) ≤ (i : Int) := by omega
      have q2 : (i : Int) < 41 := by omega
      have x0 := hij.out.ls.at_ (i := i) (by omega)
      have f0 := hij.out.ls.fz i
      have hij2 := Lib.hid (hij.out.set_L (i := i) (by omega) A.never)
      rw [show A.upd (fun j => if j < i then A.never else 0) i A.never = fun j => if j < i + 1 then A.never else 0 from by
        funext j
        show (if j = i then A.never else if j < i then A.never else 0) = if j < i + 1 then A.never else 0
        by_cases e : j = i
        · rw [if_pos e, if_pos (by omega)]
        · by_cases e2 : j < i
          · rw [if_neg e, if_pos e2, if_pos (by omega)]
          · rw [if_neg e, if_neg e2, if_neg (by omega)]] at hij2
      clear hij xz0 fz0
      go_wp2
      go_roundw
      case rel => exact ⟨i + 1, by go_num, hlt, hij2⟩
      case measure => simp [intOf] <;> omega
    · obtain rfl : i = 41 := by omega
      have f0 := hij.out.st.fz (82 + 0)
      have x0 := hij.out.st.p_ (i := 0) (by omega)
      have DJ0 := Lib.hid (A.dij_start HUN.out hk (fun j => if j < 41 then A.never else 0) (fun _ => 0) (fun j h1 h2 => if_pos (by omega)))
      have IJ1 := Lib.hid (hij.out.set_p (i := 0) (by omega) (k + 1))
      clear hij xz0 fz0 HUN
      go_wp2
      go_loopg [10] (A.undone rs.length (fun _ => false)) (fun g v10 wr => ∃ (a t : Nat) (s : Int) (rk : Nat → Nat) (u v : Nat → Int) (p : Nat → Nat) (L : Nat → Int) (F : Nat → Nat) (dn : Nat → Bool), v10 = .int .i64 a ∧ Hid (A.Dij rs.length c k u v p dn L F a t s rk) ∧ Hid (-(k * A.M) - s ≤ v 0 ∧ v 0 ≤ 0) ∧ Hid (g = A.undone rs.length dn) ∧ Hid (C.IJ w wr b u v p q L F dn))
      case atStart => exact ⟨0, 0, 0, fun _ => 0, u, v, _, _, _, _, rfl, DJ0, Lib.hid (by have := HV00.out; omega), Lib.hid rfl, IJ1⟩
      case round =>
        clear DJ0 IJ1 f0 x0 HV00
        obtain ⟨a, t, s, rk, u, v, p, L, F, dn, rfl, hdij, hvz, hgk, hij⟩ := hrel
        have ha := hdij.out.ale
        have ha40 : a ≤ 40 := by omega
        have han := ha.1
        have qa1 : (0 : Int) ≤ (a : Int) := by omega
        have qa2 : (a : Int) < 41 := by omega
        have xpa := hij.out.st.p_ (i := a) ha40
        obtain ⟨HBU0, HBV0⟩ := A.dij_bounds hdij.out hk hn40
        by_cases hpa : p a = 0
        · obtain ⟨hane, PS0⟩ := A.pass_start hdij.out hpa
          have hpan : (((p a : Nat) : Int) != 0) = false := by simp [hpa]
          have PS0' := Lib.hid PS0
          have HP := Lib.hid hpa
          clear PS0 hpa HBU0 HBV0 ha
          go_wp2
          clear xpa hpan
          go_loopg [10] (rk a) (fun g v10 wr => ∃ (a' : Nat) (p2 : Nat → Nat), v10 = .int .i64 a' ∧ Hid (A.Pass rs.length c k u v p dn F rk p2 a') ∧ Hid (g = rk a') ∧ Hid (C.IJ w wr b u v p2 q L F dn))
          case atStart => exact ⟨a, p, rfl, PS0', Lib.hid rfl, hij⟩
          case round =>
            clear PS0' hij
            obtain ⟨a', p2, rfl, hps, hg, hij⟩ := hrel
            have hal := hps.out.ale
            have qa1' : (0 : Int) ≤ (a' : Int) := by omega
            have qa2' : (a' : Int) < 41 := by omega
            by_cases ha0 : a' = 0
            · subst ha0
              have HUN := Lib.hid (A.pass_end hdij.out hps.out)
              have HV9 : Hid (-((k + 1 : Nat) * A.M) ≤ v 0 ∧ v 0 ≤ 0) := Lib.hid (by
                have h1 := hvz.out
                have h2 := hdij.out.sle
                rw [show (((k + 1 : Nat) : Int) * A.M) = k * A.M + A.M by rw [Int.natCast_add, Int.add_mul]; simp]
                omega)
              clear hps hdij
              go_wp2
              go_end0
              exact ⟨rfl, u, v, p2, hij.out.st, HUN.out, HV9.out, hij.out.gr⟩
            · obtain ⟨PS2, hrk⟩ := A.pass_step hdij.out ha0 hps.out
              have hFl := (hdij.out.dnle (F a') (hps.out.tr (by omega)).1).1
              have ha0' : ((a' : Int) != 0) = true := bne_iff_ne.2 (by omega)
              have xf := hij.out.fr.at_ (i := a') (by omega)
              have xp := hij.out.st.p_ (i := F a') (by omega)
              have xq := hij.out.st.p_ (i := a') (by omega)
              have fp := hij.out.st.fz (82 + a')
              have I30 := Lib.hid (hij.out.set_p (i := a') (by omega) (p2 (F a'))).drew
              have PS2' := Lib.hid PS2
              have HRK := Lib.hid hrk
              clear hps hij PS2 hrk
              generalize p2 (F a') = pf at *
              generalize p2 a' = pa' at *
              obtain ⟨fa, hfa⟩ : ∃ fa, F a' = fa := ⟨_, rfl⟩
              rw [hfa] at xf xp hFl PS2' HRK
              have qf1 : (0 : Int) ≤ (fa : Int) := by omega
              have qf2 : (fa : Int) < 41 := by omega
              have HFA := Lib.hid hfa
              clear hfa
              go_wp2_with fail
              go_still_tail 12, (by kernel_rfl)
              go_wp2
              go_roundg (rk fa)
              case measure => rw [hg.out]; exact HRK.out
              case rel => exact ⟨fa, _, rfl, PS2', Lib.hid rfl, I30⟩
        · have hpa0 := hpa
          have hpan : (((p a : Nat) : Int) != 0) = true := bne_iff_ne.2 (by omega)
          obtain ⟨hpa1, -, hpa2, -⟩ := A.dij_row hdij.out hk (d := a) (.inr rfl) hpa
          have xd := hij.out.dn.at_ (i := a) ha40
          have fd := hij.out.dn.fz a
          have hbu := HBU0 (p a) hpa1 hpa2
          have hbv := Lib.hid HBV0
          have IJ1 := Lib.hid (hij.out.set_dn ha40 true)
          have SC0 := Lib.hid (A.scan_start (c := c) u v p (A.upd dn a true) a L F)
          have HBU := Lib.hid HBU0
          have ha := Lib.hid ha
          clear hij HBU0 HBV0 hpa
          go_wp2
          go_loopw [11, 12, 13] (fun v11 v12 v13 wr => ∃ (m nx : Nat) (de : Int) (L' : Nat → Int) (F' : Nat → Nat), v13 = .int .i64 m ∧ 1 ≤ m ∧ m ≤ rs.length + 1 ∧ v11 = .int .i64 nx ∧ v12 = .int .i64 de ∧ Hid (A.Scan (c := c) u v p (A.upd dn a true) a L L' F F' m nx de) ∧ Hid (C.IJ w wr b u v p q L' F' (A.upd dn a true))) (fun _ _ v13 _ => rs.length + 1 - (intOf v13).toNat)
          case atStart => exact ⟨1, 0, A.never, L, F, rfl, by omega, by omega, rfl, rfl, SC0, IJ1⟩
          case round =>
            clear SC0 IJ1 xd fd xpa
            obtain ⟨m, nx, de, L', F', rfl, hm1, hm2, rfl, rfl, hsc, hij⟩ := hrel
            by_cases hml : m ≤ rs.length
            · have hm40 : m ≤ 40 := by omega
              have qm1 : (0 : Int) ≤ (m : Int) := by omega
              have qm2 : (m : Int) < 41 := by omega
              have qm3 : (m : Int) ≤ (rs.length : Int) := by omega
              have xd := hij.out.dn.at_ (i := m) hm40
              cases hdm : A.upd dn a true m
              · rw [hdm] at xd
                have hdm := Lib.hid hdm
                have SL := Lib.hid (SLK.out wr u v p (p a) m hij.out.gr hij.out.st hpa1 hpa2 hm1 (by omega) (by omega) (by omega) (by have := (hbv.out m hm1 (by omega)); omega) (by have := (hbv.out m hm1 (by omega)); omega))
                obtain ⟨x, hx⟩ : ∃ x, c (p a) m - u (p a) - v m = x := ⟨_, rfl⟩
                rw [hx] at SL
                have HX := Lib.hid hx
                have xo := hij.out.st.p_ (i := a) ha40
                clear hx
                go_wp2_with fail
                refine SL.out.mono ?_
                rintro e' w' ⟨rfl, nd, rfl⟩
                have IJ2 := Lib.hid (hij.out.drewN nd)
                have xl0 := hij.out.ls.at_ (i := m) hm40
                have xl := IJ2.out.ls.at_ (i := m) hm40
                have fl := IJ2.out.ls.fz m
                have xf := IJ2.out.fr.at_ (i := m) hm40
                have ff := IJ2.out.fr.fz m
                clear SL xo xd hij
                by_cases c1 : x < L' m
                · by_cases c2 : x < de
                  · skip
                    have HSC : Hid (A.Scan (c := c) u v p (A.upd dn a true) a L (A.upd L' m x) F (A.upd F' m a) (m + 1) m x) := Lib.hid (A.scan_look hsc.out hm1 hdm.out (by rw [HX.out]; rw [if_pos c1]) (by rw [HX.out]; rw [if_pos c1]) (by rw [A.upd_same, if_pos c2]) (by rw [A.upd_same, if_pos c2]))
                    have IJ3 := Lib.hid ((IJ2.out.set_L hm40 x).set_F hm40 a)
                    clear hsc IJ2 HX
                    have xl2 := IJ3.out.ls.at_ (i := m) hm40
                    rw [A.upd_same] at xl2

                    go_wp2_with fail
                    go_quiet (fail)
                    go_wp2
                    go_roundw
                    case rel => exact ⟨m + 1, m, _, _, _, by go_num, by omega, by omega, rfl, rfl, HSC, Lib.hid (by have := IJ3.out.drewN nq; simpa using this)⟩
                    case measure => simp [intOf] <;> omega
                  · skip
                    have HSC : Hid (A.Scan (c := c) u v p (A.upd dn a true) a L (A.upd L' m x) F (A.upd F' m a) (m + 1) nx de) := Lib.hid (A.scan_look hsc.out hm1 hdm.out (by rw [HX.out]; rw [if_pos c1]) (by rw [HX.out]; rw [if_pos c1]) (by rw [A.upd_same, if_neg c2]) (by rw [A.upd_same, if_neg c2]))
                    have IJ3 := Lib.hid ((IJ2.out.set_L hm40 x).set_F hm40 a)
                    clear hsc IJ2 HX

                    go_wp2
                    go_roundw
                    case rel => exact ⟨m + 1, nx, de, _, _, by go_num, by omega, by omega, rfl, rfl, HSC, IJ3⟩
                    case measure => simp [intOf] <;> omega
                · by_cases c2 : L' m < de
                  · skip
                    have HSC : Hid (A.Scan (c := c) u v p (A.upd dn a true) a L L' F F' (m + 1) m (L' m)) := Lib.hid (A.scan_look hsc.out hm1 hdm.out (by rw [HX.out]; rw [if_neg c1]) (by rw [HX.out]; rw [if_neg c1]) (by rw [if_pos c2]) (by rw [if_pos c2]))
                    have IJ3 := Lib.hid IJ2.out
                    clear hsc IJ2 HX

                    go_wp2_with fail
                    go_quiet (fail)
                    go_wp2
                    go_roundw
                    case rel => exact ⟨m + 1, m, _, _, _, by go_num, by omega, by omega, rfl, rfl, HSC, Lib.hid (by have := IJ3.out.drewN nq; simpa using this)⟩
                    case measure => simp [intOf] <;> omega
                  · skip
                    have HSC : Hid (A.Scan (c := c) u v p (A.upd dn a true) a L L' F F' (m + 1) nx de) := Lib.hid (A.scan_look hsc.out hm1 hdm.out (by rw [HX.out]; rw [if_neg c1]) (by rw [HX.out]; rw [if_neg c1]) (by rw [if_neg c2]) (by rw [if_neg c2]))
                    have IJ3 := Lib.hid IJ2.out
                    clear hsc IJ2 HX

                    go_wp2
                    go_roundw
                    case rel => exact ⟨m + 1, nx, de, _, _, by go_num, by omega, by omega, rfl, rfl, HSC, IJ3⟩
                    case measure => simp [intOf] <;> omega
              · rw [hdm] at xd
                have HSC := Lib.hid (A.scan_skip hsc.out hdm)
                clear hdm hsc
                go_wp2
                go_roundw
                case rel => exact ⟨m + 1, nx, de, L', F', by go_num, by omega, by omega, rfl, rfl, HSC, hij⟩
                case measure => simp [intOf] <;> omega
            · have hmE : m = rs.length + 1 := by omega
              have hsc := Lib.hid (show A.Scan (c := c) u v p (A.upd dn a true) a L L' F F' (rs.length + 1) nx de from hmE ▸ hsc.out)
              have hdf : decide ((m : Int) ≤ (rs.length : Int)) = false := decide_eq_false (by omega)
              clear hmE
              obtain ⟨sn1, sn2, sn3, sn4, sn5⟩ := A.scan_next hdij.out hk HC.out hpa0 hsc.out
              have hsle := hdij.out.sle
              have hde : de ≤ 1000000 := by unfold A.M at sn4; omega
              have HLU : Hid (∀ j, 1 ≤ j → j ≤ rs.length → A.upd dn a true j = false → 0 ≤ L' j ∧ L' j ≤ 200000000) := Lib.hid (fun j h1 h2 h3 => by
                have hx := (hsc.out.upto j h1 (by omega) h3).1
                have hcc := HC.out (p a) j hpa1 hpa2 h1 h2
                have h4 := hbv.out j h1 h2
                have h5 := sn5 j h1 h2 h3
                unfold A.M at hcc
                omega)
              have HINJ : Hid (∀ d d', d ≤ rs.length → d' ≤ rs.length → A.upd dn a true d = true → A.upd dn a true d' = true → p d = p d' → d = d') := Lib.hid (fun d d' h1 h2 h3 h4 h5 => A.dij_inj hdij.out h1 h2 (by
                have := A.dij_row hdij.out hk (d := d) (by
                  by_cases e : d = a
                  · exact .inr e
                  · rw [A.upd_ne _ _ e] at h3; exact .inl h3) hpa0
                omega) h5)
              have HV0 : Hid (-100000000 ≤ v 0 ∧ v 0 ≤ 0) := Lib.hid (by
                have h1 := hvz.out
                have hkm : (k : Int) * A.M ≤ 40 * A.M := Int.mul_le_mul_of_nonneg_right (by omega) (by unfold A.M; omega)
                unfold A.M at h1 hkm hsle
                omega)
              have HD0 : Hid (A.upd dn a true 0 = true) := Lib.hid (by
                by_cases e : 0 = a
                · rw [← e]; exact A.upd_same _ _ _
                · rw [A.upd_ne _ _ e]
                  rcases Nat.eq_zero_or_pos t with ht | ht
                  · exact absurd (hdij.out.start ht).1.symm e
                  · exact (hdij.out.later ht).2)
              have AD0 := Lib.hid (A.adj_start u v L' p (A.upd dn a true) de)
              have HBV := Lib.hid hbv.out
              clear sn5 sn3 hbv
              go_wp2
              go_loopw [15] (fun v15 wr => ∃ (m : Nat) (u2 v2 L2 : Nat → Int), v15 = .int .i64 m ∧ m ≤ rs.length + 1 ∧ Hid (A.Adj u v L' p (A.upd dn a true) de u2 v2 L2 m) ∧ Hid (C.IJ w wr b u2 v2 p q L2 F' (A.upd dn a true))) (fun v15 _ => rs.length + 1 - (intOf v15).toNat)
              case atStart => exact ⟨0, u, v, L', rfl, by omega, AD0, hij⟩
              case round =>
                clear AD0 hij
                obtain ⟨m, u2, v2, L2, rfl, hm2, had, hij⟩ := hrel
                by_cases hml : m ≤ rs.length
                · have hm40 : m ≤ 40 := by omega
                  have qm1 : (0 : Int) ≤ (m : Int) := by omega
                  have qm2 : (m : Int) < 41 := by omega
                  have qm3 : (m : Int) ≤ (rs.length : Int) := by omega
                  have xd := hij.out.dn.at_ (i := m) hm40
                  cases hdm : A.upd dn a true m
                  · rw [hdm] at xd
                    have hm1 : 1 ≤ m := by
                      rcases Nat.eq_zero_or_pos m with e | e
                      · subst e; rw [HD0.out] at hdm; cases hdm
                      · exact e
                    have hL2 : L2 m = L' m := by rw [had.out.ll, if_neg (by omega)]
                    obtain ⟨b1, b2⟩ := HLU.out m hm1 hml hdm
                    have NAD := Lib.hid (A.adj_open had.out hdm)
                    have NIJ := Lib.hid (hij.out.set_L hm40 (L2 m - de))
                    have xl := hij.out.ls.at_ (i := m) hm40
                    have fl := hij.out.ls.fz m
                    rw [hL2] at xl NAD NIJ
                    clear hL2 had hij hdm
                    generalize L' m = X at *
                    have uw : IntKind.i64.wrap (X - de) = X - de := by simp [IntKind.wrap, IntKind.bits, IntKind.signed]; omega
                    go_wp2
                    go_roundw
                    case rel => exact ⟨m + 1, _, _, _, by go_num, by omega, NAD, NIJ⟩
                    case measure => simp [intOf] <;> omega
                  · rw [hdm] at xd
                    have hmp := Lib.hid (A.dij_row hdij.out hk (d := m) (by
                      by_cases e : m = a
                      · exact .inr e
                      · rw [A.upd_ne _ _ e] at hdm; exact .inl hdm) hpa0)
                    obtain ⟨hmp1, hmp2, hmp3, hmp4⟩ := hmp.out
                    have hu2 : u2 (p m) = u (p m) := (had.out.uu (p m)).2 (by
                      rintro ⟨d, h1, h2, h3⟩
                      have := HINJ.out d m (by omega) (by omega) h2 hdm h3
                      omega)
                    have hv2 : v2 m = v m := by rw [had.out.vv, if_neg (by omega)]
                    have hbu := HBU.out (p m) hmp1 hmp3
                    have hbvm : -100000000 ≤ v m ∧ v m ≤ 0 := by
                      by_cases e : m = 0
                      · subst e; exact HV0.out
                      · have := HBV.out m (by omega) (by omega); omega
                    have NAD := Lib.hid (A.adj_done had.out hdm (fun d h1 h2 h3 => by have := HINJ.out d m (by omega) (by omega) h2 hdm h3; omega))
                    have xp := hij.out.st.p_ (i := m) hm40
                    have xu := hij.out.st.u_ (i := p m) (by omega)
                    have xv := hij.out.st.v_ (i := m) hm40
                    have fz1 := hij.out.st.fz (p m)
                    have fz2 := hij.out.st.fz (41 + m)
                    have q5 : ((p m : Nat) : Int) < 41 := by omega
                    have q6 : (0 : Int) ≤ ((p m : Nat) : Int) := by omega
                    have I25 := Lib.hid (hij.out.set_u (i := p m) (by omega) (u2 (p m) + de)).drew
                    rw [hu2] at xu
                    rw [hv2] at xv
                    rw [hu2, hv2] at NAD
                    rw [hu2] at I25
                    have hv2' := Lib.hid hv2
                    clear hu2 hv2 had hij hdm hmp
                    generalize u (p m) = U at *
                    generalize v m = V at *
                    have uw : IntKind.i64.wrap (U + de) = U + de := by simp [IntKind.wrap, IntKind.bits, IntKind.signed]; omega
                    have vw : IntKind.i64.wrap (V - de) = V - de := by simp [IntKind.wrap, IntKind.bits, IntKind.signed]; omega
                    generalize p m = pm at *
                    go_wp2_with fail
                    go_still_tail 15, (by kernel_rfl)
                    go_wp2_with fail
                    generalize hW : (wr.setCell _ _).drew = W at *
                    clear hW xp xu xd fz1 fz2 xv
                    have xv := I25.out.st.v_ (i := m) hm40
                    have fz2 := I25.out.st.fz (41 + m)
                    rw [hv2'.out] at xv
                    have I26 := Lib.hid (I25.out.set_v hm40 (V - de)).drew
                    clear I25
                    go_still_tail 10, (by kernel_rfl)
                    go_wp2
                    go_roundw
                    case rel => exact ⟨m + 1, _, _, _, by go_num, by omega, NAD, I26⟩
                    case measure => simp [intOf] <;> omega
                · obtain rfl : m = rs.length + 1 := by omega
                  have DJ2 := Lib.hid (A.dij_round hdij.out hk hn40 HC.out hpa0 hsc.out had.out)
                  have HVZ2 : Hid (-(k * A.M) - (s + de) ≤ v2 0 ∧ v2 0 ≤ 0) := Lib.hid (by
                    rw [had.out.vv, if_pos ⟨by omega, HD0.out⟩]
                    have := hvz.out
                    omega)
                  have UL := Lib.hid (A.undone_lt ha.out.1 ha.out.2.1)
                  clear had hsc hdij hvz ha HLU HINJ HV0 HD0 HBV HBU
                  go_wp2
                  go_roundg (A.undone rs.length (A.upd dn a true))
                  case measure => rw [hgk.out]; exact UL.out
                  case rel => exact ⟨nx, t + 1, s + de, _, u2, v2, p, L2, F', _, rfl, DJ2, HVZ2, Lib.hid rfl, hij⟩
end Go.Proofs.Ytoemhphgnpedmaa
