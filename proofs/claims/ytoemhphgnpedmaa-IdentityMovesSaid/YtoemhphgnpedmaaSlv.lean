/-
  The walks of layer 29: Solve. By an AI agent.
-/
import Derived.RangeFuncBox
import Derived.Test.YtoemhphgnpedmaaChk
namespace Go.Proofs.Ytoemhphgnpedmaa
open Go.RowKit

theorem infoInt : (Try.prog.info? 3).map (fun i => (i.zero, i.size, i.bytes)) = some (some (.int .i64 0), 1, 8) := by kernel_rfl
theorem C.ns_one (l : List Int) : ∀ u ∈ C.ns l, u.oneCell' = true := by
  intro u hu; simp only [C.ns, List.mem_map] at hu; obtain ⟨s, _, rfl⟩ := hu; rfl
/-- An assignment as the program returns it: columns from 0. -/
def C.asg (n : Nat) (N : Nat → Nat) : List Int := (List.range n).map fun t => ((N (t + 1) : Nat) : Int) - 1
theorem C.asg_len (n : Nat) (N : Nat → Nat) : (C.asg n N).length = n := by simp [C.asg]
theorem C.asg_succ (n : Nat) (N : Nat → Nat) : C.asg (n + 1) N = C.asg n N ++ [((N (n + 1) : Nat) : Int) - 1] := by simp [C.asg, List.range_succ]
theorem C.asg_congr {n : Nat} {N N' : Nat → Nat} (h : ∀ r, 1 ≤ r → r ≤ n → N r = N' r) : C.asg n N = C.asg n N' := by
  unfold C.asg
  exact List.map_congr_left fun t ht => by rw [h (t + 1) (by omega) (by have := List.mem_range.1 ht; omega)]
theorem own_mono {w : World} {base base' size n : Nat} {e : TypeId} {v : Value} {xs : List Value} (h : w.ownsRow base e size v n xs) (hb : base' ≤ base) : w.ownsRow base' e size v n xs :=
  ⟨h.1, h.2.imp id fun ⟨g, cap, cur, e1, h1, h2⟩ => ⟨g, cap, cur, e1, Nat.le_trans hb h1, h2⟩⟩
def C.SolveOut (m : List (List Int)) (w w' : World) (e : Ending) : Prop := Below w.heap.size w w' ∧
  ((C.chkV m ≠ 0 ∧ e = .returned (.tuple #[.slice none 0 0, .int .i64 (C.chkV m)])) ∨
   (C.chkV m = 0 ∧ ∃ Ar c N, e = .returned (.tuple #[.slice Ar m.length c, .int .i64 0]) ∧ Reads w' w'.heap.size 1 Ar m.length (C.ns (C.asg m.length N)) ∧ A.Best m.length (C.cst m) N ∧ w'.ownsRow w.heap.size 3 1 (.slice Ar m.length c) m.length (C.ns (C.asg m.length N))))

/-- What lies in memory in Solve's loop. -/
structure C.VJ (w wr : World) (Sb : Nat) (u v : Nat → Int) (p q : Nat → Nat) (k : Nat) (vo : Value) : Prop where
  st : C.St wr Sb u v p q
  own : wr.ownsRow (Sb + 1) 3 1 vo k (C.ns (C.asg k q))
  bl : Below w.heap.size w wr
  lo : w.heap.size ≤ Sb
theorem C.VJ.lower {w wr w1 w2 : World} {Sb k : Nat} {u v u' v' : Nat → Int} {p q p' q' : Nat → Nat} {vo : Value} (h : C.VJ w wr Sb u v p q k vo) (hb : Below wr.heap.size wr w1) (hs : C.St w2 Sb u' v' p' q') (hg : w1.grownBy w2 (some Sb)) (hk : ∀ r, r ≤ k → q' r = q r) : C.VJ w w2 Sb u' v' p' q' k vo := by
  have h1 := own_under h.own hb
  refine ⟨hs, ?_, ?_, h.lo⟩
  · rw [C.asg_congr (N' := q) (fun r _ h2 => hk r h2)]
    refine h1.kept hg ?_
    cases ho : vo.ownBlock with
    | none => exact .inl rfl
    | some g => right; have := (h.own.lt g ho).1; intro e; injection e with e; omega
  · have hz := h.bl.size
    have hz1 := hb.size
    have hlt := h.st.lt
    exact (h.bl.trans (hb.mono hz)).trans (below_of_only (B := w.heap.size) hg h.lo (by omega))
theorem C.VJ.push {w wr W2 : World} {Sb k : Nat} {u v : Nat → Int} {p q : Nat → Nat} {vo vo' : Value} {x : Value} (h : C.VJ w wr Sb u v p q k vo) (hx : x = .int .i64 (((q (k + 1) : Nat) : Int) - 1))
    (hown : W2.ownsRow (Sb + 1) 3 1 vo' (k + 1) (C.ns (C.asg k q) ++ [x])) (hg : (wr.alloc (.cells #[x] 3)).grownBy W2 vo.ownBlock) : C.VJ w W2 Sb u v p q (k + 1) vo' := by
  have hlt := h.st.lt
  have lo : ∀ g, vo.ownBlock = some g → Sb + 1 ≤ g := fun g hg => (h.own.lt g hg).1
  refine ⟨(hg.block Sb (by simp; omega) (fun e => by have := lo _ e.symm; omega)).trans ((Below.heap_alloc _ _ _ hlt).trans h.st), ?_, ?_, h.lo⟩
  · rw [C.asg_succ]
    simp only [C.ns, List.map_append, List.map_cons, List.map_nil] at *
    rw [← hx]
    exact hown
  · have hz := h.bl.size
    exact (h.bl.alloc hz _).grown hg (by simp; omega) (fun b e => by have := lo b e; have := h.lo; omega)

theorem A.sol_bounds {n : Nat} {c : Nat → Nat → Int} {u v : Nat → Int} {p q : Nat → Nat} (h : A.Sol n c u v p q) (hn : n ≤ 40) : (∀ r, 1 ≤ r → r ≤ n → 0 ≤ u r ∧ u r ≤ 50000000) ∧ (∀ j, 1 ≤ j → j ≤ n → -50000000 ≤ v j ∧ v j ≤ 0) := by
  have hkm : (n : Int) * A.M ≤ 40 * A.M := Int.mul_le_mul_of_nonneg_right (by omega) (by unfold A.M; omega)
  unfold A.M at hkm
  refine ⟨fun r h1 h2 => ?_, fun j h1 h2 => ?_⟩
  · have := h.bu r h1 h2; unfold A.M at this; omega
  · have := h.bv j h1 h2; unfold A.M at this; omega

set_option maxRecDepth 100000 in
set_option maxHeartbeats 16000000 in
theorem Solve_any (B : Nat) (Ad : Option Addr) (cp : Nat) (rs : List (Option Addr × Nat × List Int)) (w : World) (h : C.Mx w B Ad rs) (hB : B ≤ w.heap.size) :
    Calls Try.prog 28 #[.slice Ad rs.length cp] w fun e w' => C.SolveOut (C.mt rs) w w' e := by
  have hl : (C.mt rs).length = rs.length := by simp [C.mt]
  have CK := Lib.hid (check_any B Ad cp rs w h hB)
  by_cases hz : C.chkV (C.mt rs) = 0
  · have hq := C.chk_sq hz
    have hn40 : rs.length ≤ 40 := by have := hq.1; omega
    rw [hz] at CK
    have HZ := Lib.hid hz
    have SV : Hid (∀ w', Below w.heap.size w w' → Calls Try.prog 35 #[.slice Ad rs.length cp] w' fun e w'' => C.SolOut rs.length (C.cst (C.mt rs)) w' w'' e) := Lib.hid (fun w' hb => solve_any B Ad cp rs w' (h.below hb hB) hq (Nat.le_trans hB hb.size))
    have LW : Hid (∀ w' (u v : Nat → Int) (p q : Nat → Nat) (R : Nat), Below w.heap.size w w' → A.PM rs.length (A.tg (C.cst (C.mt rs)) u v) q p → A.LeastTo rs.length (A.tg (C.cst (C.mt rs)) u v) q (R + 1) → R < rs.length → (∀ r, 1 ≤ r → r ≤ rs.length → 0 ≤ u r ∧ u r ≤ 50000000) → (∀ j, 1 ≤ j → j ≤ rs.length → -50000000 ≤ v j ∧ v j ≤ 0) →
        Calls Try.prog 36 #[.agg (C.stA u v p q), .slice Ad rs.length cp, .int .i64 ((R : Int) + 1)] w' fun e w'' => C.LowOut rs.length (C.cst (C.mt rs)) u v q (R + 1) w' w'' e) := Lib.hid (fun w' u v p q R hb h1 h2 h3 h4 h5 =>
      lower_any B Ad cp rs u v p q (R + 1) w' (h.below hb hB) hq (Nat.le_trans hB hb.size) h1 h2 ⟨by omega, by omega⟩ h4 h5)
    have HL := Lib.hid hl
    obtain ⟨i0, hi, hz0, hz1, hz2⟩ := info_parts infoInt
    unfold C.SolveOut
    rw [hl]
    generalize C.cst (C.mt rs) = c at *
    clear h hz hq hl
    go_enter Try.func28, Try.ntmps28
    go_wp2_with fail
    refine CK.out.mono ?_
    rintro e' w1 ⟨rfl, b1⟩
    clear CK
    go_wp2_with fail
    refine (SV.out w1 b1).mono ?_
    rintro e' w2 ⟨u, v, p, q, rfl, hsol, b2'⟩
    have b2 := b1.trans (b2'.mono b1.size)
    have BDS := A.sol_bounds hsol hn40
    have HBU := Lib.hid BDS.1
    have HBV := Lib.hid BDS.2
    have FE := Lib.hid hsol.feas
    have PM0 := Lib.hid hsol.pm
    have LT0 : Hid (A.LeastTo rs.length (A.tg c u v) q (0 + 1)) := Lib.hid (fun r h1 h2 => by omega)
    have Z2 : C.St (w2.alloc (.cells (C.stA (fun _ => 0) (fun _ => 0) (fun _ => 0) (fun _ => 0)) 52)) w2.heap.size (fun _ => 0) (fun _ => 0) (fun _ => 0) (fun _ => 0) := C.heap_new w2 _
    have B2 := Lib.hid b2
    clear b2' BDS hsol SV b1 b2
    go_wp2_with (first | (refine wpList_alloc_at rfl 52 rfl _ C.zero45 _ rfl ?_) | (refine wpList_store_st rfl (.tmp 5) (.tmp 14) rfl w2.heap.size rfl u v p q rfl _ _ _ _ Z2 ?_; intro w3 hs3 hg3 hz3))
    obtain ⟨Sb, hSb⟩ : ∃ Sb, w2.heap.size = Sb := ⟨_, rfl⟩
    have J0 : Hid (C.VJ w w3 Sb u v p q 0 (.slice none 0 0)) := Lib.hid (by
      rw [← hSb]
      refine ⟨hs3, World.ownsRow_nil _ _ _ _, ?_, B2.out.size⟩
      exact (B2.out.alloc B2.out.size _).trans (below_of_only (B := w.heap.size) hg3 B2.out.size (by simp; have := B2.out.size; omega)))
    rw [hSb]
    clear hs3 hg3 hz3 hSb Z2 B2
    go_loopw [6, 17] (fun v6 v17 wr => ∃ (k : Nat) (p q : Nat → Nat), v17 = .int .i64 k ∧ k ≤ rs.length ∧ Hid (A.PM rs.length (A.tg c u v) q p) ∧ Hid (A.LeastTo rs.length (A.tg c u v) q (k + 1)) ∧ Hid (C.VJ w wr Sb u v p q k v6)) (fun _ v17 _ => rs.length - (intOf v17).toNat)
    case atStart => exact ⟨0, p, q, rfl, by omega, PM0, LT0, J0⟩
    case round =>
      clear PM0 LT0 J0
      obtain ⟨k, p, q, rfl, hk, hpm, hlt0, hj⟩ := hrel
      by_cases hlt : k < rs.length
      · have st := hj.out.st
        have lw := Lib.hid (LW.out wr u v p q k hj.out.bl hpm.out hlt0.out hlt HBU.out HBV.out)
        go_wp2_with (first | (refine wpList_load_st rfl (.tmp 5) rfl Sb rfl u v p q st ?_))
        clear st
        refine lw.out.mono ?_
        rintro e' w4 ⟨p', q', rfl, hpm', hlt', hkeep, b4⟩
        have st4 := hj.out.st.below b4 hj.out.st.lt
        go_wp2_with (first | (refine wpList_store_st rfl (.tmp 5) (.tmp 24) rfl Sb rfl u v p' q' rfl _ _ _ _ st4 ?_; intro w5 hs5 hg5 hz5; have J5 := Lib.hid (hj.out.lower b4 hs5 hg5 (fun r h => hkeep r (by omega))); have hq5 := hpm'.cr (k + 1) (by omega) (by omega); have x5 := hs5.q_ (i := k + 1) (by omega); have hpm5 := Lib.hid hpm'; have hlt5 := Lib.hid hlt'; clear hpm' hlt' hkeep hs5 hg5 hz5 st4; obtain ⟨hqa, hqb, -, -⟩ := hq5; obtain ⟨qk, hqk⟩ : ∃ qk, q' (k + 1) = qk := ⟨_, rfl⟩; rw [hqk] at x5 hqa hqb; have HQ5 := Lib.hid hqk; clear hqk; have own5 := J5.out.own.alloc (.cells #[.int .i64 ((qk : Int) - 1)] 3); have hz5 := J5.out.st.lt) | (at_builtin; refine wpList_append_any _ rfl (.tmp 25) (.tmp 32) 32 rfl (Sb + 1) 3 i0 _ 1 8 Try.underlying32 hi hz0 hz1 hz2 rfl (by decide) u6 _ _ rfl own5 _ _ 1 1 [.int .i64 ((qk : Int) - 1)] rfl (reads_new _ [.int .i64 ((qk : Int) - 1)] 3) (by simp [Value.oneCell']) (by simp only [maxLen]; omega) (by omega) (by simp; omega) ?_; intro vo' W6 hown6 hgrow6 hnew6))
        have J6 := Lib.hid (J5.out.push (by rw [HQ5.out]) hown6 hgrow6)
        clear hown6 hgrow6 hnew6 own5 J5 HQ5 x5 hj b4
        go_wp2
        go_roundw
        case rel => exact ⟨k + 1, p', q', by go_num, hlt, hpm5, hlt5, J6⟩
        case measure => simp [intOf] <;> omega
      · obtain rfl : k = rs.length := by omega
        have BS := Lib.hid (A.best_of FE.out hpm.out hlt0.out).1
        obtain ⟨A, ca, rfl, hrd⟩ := own_reads hj.out.own
        have RD := Lib.hid hrd
        have OWN := Lib.hid (own_mono hj.out.own (Nat.le_succ_of_le hj.out.lo))
        have BL := Lib.hid hj.out.bl
        clear hrd hpm hlt0 hj
        go_wp2_with fail
        go_ret2
        exact ⟨BL.out, .inr ⟨HZ.out, A, ca, q, rfl, RD.out, BS.out, OWN.out⟩⟩
  · have HZ := Lib.hid hz
    have hzn : (C.chkV (C.mt rs) != 0) = true := bne_iff_ne.2 hz
    clear h hz hl
    go_enter Try.func28, Try.ntmps28
    go_wp2_with fail
    refine CK.out.mono ?_
    rintro e' w1 ⟨rfl, b1⟩
    have B1 := Lib.hid b1
    clear b1 CK
    go_wp2_with fail
    go_ret2
    exact ⟨B1.out, .inl ⟨HZ.out, rfl⟩⟩
end Go.Proofs.Ytoemhphgnpedmaa
