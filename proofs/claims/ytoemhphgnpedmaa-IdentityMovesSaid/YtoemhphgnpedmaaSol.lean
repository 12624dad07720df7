/-
  The walks of layer 29: solve. By an AI agent.
-/
import Derived.Test.YtoemhphgnpedmaaStl
namespace Go.Proofs.Ytoemhphgnpedmaa
open Go.RowKit

theorem C.zero45 : ∀ w : World, (zeroValue 52).run Try.prog w = .ok (.agg (C.stA (fun _ => 0) (fun _ => 0) (fun _ => 0) (fun _ => 0))) w := fun w => by kernel_rfl

/-- What solve leaves: numbers that prove a perfect matching optimal. -/
structure A.Sol (n : Nat) (c : Nat → Nat → Int) (u v : Nat → Int) (p q : Nat → Nat) : Prop where
  feas : ∀ r j, 1 ≤ r → r ≤ n → 1 ≤ j → j ≤ n → u r + v j ≤ c r j
  pm : A.PM n (fun r j => u r + v j = c r j) q p
  bu : ∀ r, 1 ≤ r → r ≤ n → 0 ≤ u r ∧ u r ≤ n * A.M
  bv : ∀ j, 1 ≤ j → j ≤ n → -(n * A.M) ≤ v j ∧ v j ≤ 0
  p0 : p 0 = 0
/-- The columns, behind k steps. -/
def A.Cols (n : Nat) (p q : Nat → Nat) (k : Nat) : Prop := ∀ j, 1 ≤ j → j ≤ k → q (p j) = j
theorem A.hun_full {n : Nat} {c : Nat → Nat → Int} {u v : Nat → Int} {p : Nat → Nat} (h : A.Hun n c n u v p) : (∀ j, 1 ≤ j → j ≤ n → 1 ≤ p j ∧ p j ≤ n) := by
  intro j h1 h2
  refine ⟨?_, h.le j h1 h2⟩
  by_cases e : p j = 0
  · exfalso
    -- the others would hold all rows
    have h3 := A.nodup_len (l := (A.nums n)) (m := ((A.nums n).erase j).map p) (A.nodup_nums n) (fun r hr => by
      rw [A.mem_nums] at hr
      obtain ⟨j', a1, a2, a3⟩ := h.sur r hr.1 hr.2
      refine List.mem_map.2 ⟨j', (List.mem_erase_of_ne (by rintro rfl; omega)).2 (A.mem_nums.2 ⟨a1, a2⟩), a3⟩)
    rw [List.length_map, List.length_erase_of_mem (A.mem_nums.2 ⟨h1, h2⟩), A.len_nums] at h3
    omega
  · omega
theorem A.sol_of {n : Nat} {c : Nat → Nat → Int} {u v : Nat → Int} {p q : Nat → Nat} (h : A.Hun n c n u v p) (hq : A.Cols n p q n) (h0 : p 0 = 0) : A.Sol n c u v p q := by
  have hf := A.hun_full h
  exact {
    feas := h.feas
    pm := {
      cr := fun r h1 h2 => by
        obtain ⟨j, a1, a2, a3⟩ := h.sur r h1 h2
        have := hq j a1 a2
        rw [a3] at this
        rw [this]
        refine ⟨a1, a2, a3, ?_⟩
        have ht := h.tight j a1 a2 (by omega)
        rw [a3] at ht
        exact ht
      pc := fun j h1 h2 => ⟨(hf j h1 h2).1, (hf j h1 h2).2, hq j h1 h2⟩ }
    bu := h.bu
    bv := h.bv
    p0 := h0 }
theorem A.cols_step {n k : Nat} {c : Nat → Nat → Int} {u v : Nat → Int} {p q : Nat → Nat} (h : A.Hun n c n u v p) (hq : A.Cols n p q k) (hk : k < n) : A.Cols n p (A.upd q (p (k + 1)) (k + 1)) (k + 1) := by
  intro j h1 h2
  have hf := A.hun_full h
  by_cases e : j = k + 1
  · subst e; rw [A.upd_same]
  · rw [A.upd_ne _ _ (fun e2 => e (h.inj j (k + 1) h1 (by omega) (by omega) (by omega) (by have := hf j h1 (by omega); omega) e2))]
    exact hq j h1 (by omega)
theorem A.hun_congr {n k : Nat} {c : Nat → Nat → Int} {u v v' : Nat → Int} {p p' : Nat → Nat} (h : A.Hun n c k u v p) (hv : ∀ j, 1 ≤ j → v' j = v j) (hp : ∀ j, 1 ≤ j → p' j = p j) : A.Hun n c k u v' p' where
  feas := fun r j h1 h2 h3 h4 => by rw [hv j h3]; exact h.feas r j h1 h2 h3 h4
  uz := h.uz
  le := fun j h1 h2 => by rw [hp j h1]; exact h.le j h1 h2
  tight := fun j h1 h2 => by rw [hp j h1, hv j h1]; exact h.tight j h1 h2
  inj := fun j j' h1 h2 h3 h4 => by rw [hp j h1, hp j' h3]; exact h.inj j j' h1 h2 h3 h4
  sur := fun r h1 h2 => by
    obtain ⟨j, a1, a2, a3⟩ := h.sur r h1 h2
    exact ⟨j, a1, a2, by rw [hp j a1]; exact a3⟩
  vz := fun j h1 h2 => by rw [hp j h1, hv j h1]; exact h.vz j h1 h2
  bu := h.bu
  bv := fun j h1 h2 => by rw [hv j h1]; exact h.bv j h1 h2

def C.SolOut (n : Nat) (c : Nat → Nat → Int) (w w' : World) (e : Ending) : Prop := ∃ u v p q, e = .returned (.agg (C.stA u v p q)) ∧ A.Sol n c u v p q ∧ Below w.heap.size w w'
/-- What lies in memory in solve: the result's block and the state's. -/
structure C.SJ (w wr : World) (u v : Nat → Int) (p q : Nat → Nat) : Prop where
  rs : ∃ u v p q, C.St wr w.heap.size u v p q
  st : C.St wr (w.heap.size + 1) u v p q
  bl : Below w.heap.size w wr
theorem C.SJ.grown {w wr w' : World} {u v u' v' : Nat → Int} {p q p' q' : Nat → Nat} (h : C.SJ w wr u v p q) (hg : wr.grownBy w' (some (w.heap.size + 1))) (hs : C.St w' (w.heap.size + 1) u' v' p' q') : C.SJ w w' u' v' p' q' := by
  obtain ⟨u0, v0, p0, q0, hr⟩ := h.rs
  refine ⟨⟨u0, v0, p0, q0, (hg.block _ hr.lt (by simp)).trans hr⟩, hs, ?_⟩
  have := h.bl.size
  exact h.bl.trans (below_of_only hg (by omega) this)
theorem C.SJ.set_v {w wr : World} {u v : Nat → Int} {p q : Nat → Nat} {i : Nat} (h : C.SJ w wr u v p q) (hi : i ≤ 40) (x : Int) : C.SJ w (wr.setCell ⟨w.heap.size + 1, 41 + i, none⟩ (.int .i64 x)) u (A.upd v i x) p q :=
  h.grown (only_setCell (World.grownBy.refl wr _) (.inl rfl) _) (h.st.set_v hi x)
theorem C.SJ.set_p {w wr : World} {u v : Nat → Int} {p q : Nat → Nat} {i : Nat} (h : C.SJ w wr u v p q) (hi : i ≤ 40) (x : Nat) : C.SJ w (wr.setCell ⟨w.heap.size + 1, 82 + i, none⟩ (.int .i64 x)) u v (A.upd p i x) q :=
  h.grown (only_setCell (World.grownBy.refl wr _) (.inl rfl) _) (h.st.set_p hi x)
theorem C.SJ.set_q {w wr : World} {u v : Nat → Int} {p q : Nat → Nat} {i : Nat} (h : C.SJ w wr u v p q) (hi : i ≤ 40) (x : Nat) : C.SJ w (wr.setCell ⟨w.heap.size + 1, 123 + i, none⟩ (.int .i64 x)) u v p (A.upd q i x) :=
  h.grown (only_setCell (World.grownBy.refl wr _) (.inl rfl) _) (h.st.set_q hi x)
theorem C.SJ.new (w : World) : C.SJ w ((w.alloc (.cells (C.stA (fun _ => 0) (fun _ => 0) (fun _ => 0) (fun _ => 0)) 52)).alloc (.cells (C.stA (fun _ => 0) (fun _ => 0) (fun _ => 0) (fun _ => 0)) 52)) (fun _ => 0) (fun _ => 0) (fun _ => 0) (fun _ => 0) := by
  have h1 := C.heap_new (w.alloc (.cells (C.stA (fun _ => 0) (fun _ => 0) (fun _ => 0) (fun _ => 0)) 52)) (.cells (C.stA (fun _ => 0) (fun _ => 0) (fun _ => 0) (fun _ => 0)) 52)
  simp only [World.size_alloc] at h1
  exact ⟨⟨_, _, _, _, (Below.heap_alloc _ _ _ (by simp)).trans (C.heap_new w _)⟩, h1, ((Below.refl _ w).alloc (Nat.le_refl _) _).alloc (by simp) _⟩

set_option maxRecDepth 100000 in
set_option maxHeartbeats 16000000 in
theorem solve_any (B : Nat) (Ad : Option Addr) (cp : Nat) (rs : List (Option Addr × Nat × List Int)) (w : World) (h : C.Mx w B Ad rs) (hq : C.Sq (C.mt rs)) (hB : B ≤ w.heap.size) :
    Calls Try.prog 35 #[.slice Ad rs.length cp] w fun e w' => C.SolOut rs.length (C.cst (C.mt rs)) w w' e := by
  obtain ⟨c, hc⟩ : ∃ c, C.cst (C.mt rs) = c := ⟨_, rfl⟩
  have hl : (C.mt rs).length = rs.length := by simp [C.mt]
  have hn40 : rs.length ≤ 40 := by have := hq.1; omega
  have HC : ∀ r j, 1 ≤ r → r ≤ rs.length → 1 ≤ j → j ≤ rs.length → 0 ≤ c r j ∧ c r j ≤ A.M := fun r j h1 h2 h3 h4 => by rw [← hc]; exact C.cst_range hq r j h1 (by omega) h3 (by omega)
  have INS : Hid (∀ (wr : World) (u v : Nat → Int) (p q : Nat → Nat) (k : Nat), C.SJ w wr u v p q → k < rs.length → A.Hun rs.length c k u v p → (-(k * A.M) ≤ v 0 ∧ v 0 ≤ 0) →
      Calls Try.prog 45 #[.pointer (some ⟨w.heap.size + 1, 0, none⟩), .slice Ad rs.length cp, .int .i64 ((k : Int) + 1)] wr fun e w' => e = .returned (.tuple #[]) ∧ ∃ (u v : Nat → Int) (p : Nat → Nat), C.SJ w w' u v p q ∧ A.Hun rs.length c (k + 1) u v p ∧ (-((k + 1 : Nat) * A.M) ≤ v 0 ∧ v 0 ≤ 0)) := Lib.hid (fun wr u v p q k hj hk hu hv => by
    refine (insert_any B (w.heap.size + 1) Ad cp rs c hc u v p q k wr (h.below hj.bl hB) hj.st hq (by omega) hk hu hv).mono ?_
    rintro e w' ⟨rfl, u', v', p', h1, h2, h3, h4⟩
    exact ⟨rfl, u', v', p', hj.grown h4 h1, h2, h3⟩)
  have J0 := C.SJ.new w
  have HS := Lib.hid (A.hun_start HC)
  have J0' := Lib.hid J0
  rw [hc]
  clear J0 hq hl h HC hc
  go_enter Try.func35, Try.ntmps35
  go_wp2_with (first | (refine wpList_alloc_at rfl 52 rfl _ C.zero45 _ rfl ?_))
  go_loopw [8] (fun v8 wr => ∃ (k : Nat) (u v : Nat → Int) (p q : Nat → Nat), v8 = .int .i64 k ∧ k ≤ rs.length ∧ Hid (A.Hun rs.length c k u v p) ∧ Hid (-(k * A.M) ≤ v 0 ∧ v 0 ≤ 0) ∧ Hid (C.SJ w wr u v p q)) (fun v8 _ => rs.length - (intOf v8).toNat)
  case atStart => exact ⟨0, _, _, _, _, rfl, by omega, HS, Lib.hid (by simp), J0'⟩
  case round =>
    clear J0' HS
    obtain ⟨k, u, v, p, q, rfl, hk, hun, hv, hj⟩ := hrel
    by_cases hlt : k < rs.length
    · have hi := Lib.hid (INS.out wr u v p q k hj.out hlt hun.out hv.out)
      clear hun hv hj
      go_wp2_with fail
      refine hi.out.mono ?_
      rintro e w' ⟨rfl, u', v', p', h1, h2, h3⟩
      have h1 := Lib.hid h1
      have h2 := Lib.hid h2
      have h3 := Lib.hid h3
      go_wp2
      go_roundw
      case rel => exact ⟨k + 1, u', v', p', q, by go_num, hlt, h2, h3, h1⟩
      case measure => simp [intOf] <;> omega
    · obtain rfl : k = rs.length := by omega
      have xp := hj.out.st.p_ (i := 0) (by omega)
      have xv := hj.out.st.v_ (i := 0) (by omega)
      have fp := hj.out.st.fz (82 + 0)
      have fv := hj.out.st.fz (41 + 0)
      have J2 := Lib.hid ((hj.out.set_p (i := 0) (by omega) 0).set_v (i := 0) (by omega) 0)
      have H2 := Lib.hid (A.hun_congr (v' := A.upd v 0 0) (p' := A.upd p 0 0) hun.out (fun j h => A.upd_ne _ _ (by omega)) (fun j h => A.upd_ne _ _ (by omega)))
      have P0 : Hid (A.upd p 0 0 0 = 0) := Lib.hid (A.upd_same _ _ _)
      clear hj hun hv INS
      go_wp2
      generalize A.upd p 0 0 = p at *
      generalize A.upd v 0 0 = v at *
      go_loopw [5] (fun v5 wr => ∃ (k : Nat) (q : Nat → Nat), v5 = .int .i64 ((k : Int) + 1) ∧ k ≤ rs.length ∧ Hid (A.Cols rs.length p q k) ∧ Hid (C.SJ w wr u v p q)) (fun v5 _ => rs.length + 1 - (intOf v5).toNat)
      case atStart => exact ⟨0, q, rfl, by omega, Lib.hid (fun j h1 h2 => by omega), J2⟩
      case round =>
        clear J2 xp xv fp fv
        obtain ⟨k, q, rfl, hk, hcl, hj⟩ := hrel
        by_cases hlt : k < rs.length
        · have hp := A.hun_full H2.out (k + 1) (by omega) (by omega)
          have xp := hj.out.st.p_ (i := k + 1) (by omega)
          have xq := hj.out.st.q_ (i := p (k + 1)) (by omega)
          have fq := hj.out.st.fz (123 + p (k + 1))
          have J3 := Lib.hid (hj.out.set_q (i := p (k + 1)) (by omega) (k + 1))
          have C3 := Lib.hid (A.cols_step H2.out hcl.out hlt)
          have q1 : (0 : Int) ≤ (k : Int) + 1 := by omega
          have q2 : (k : Int) + 1 < 41 := by omega
          have q3 : (k : Int) + 1 ≤ (rs.length : Int) := by omega
          have q4 : ((k : Int) + 1).toNat = k + 1 := by omega
          obtain ⟨hp1, hp2⟩ := hp
          clear hcl hj
          generalize p (k + 1) = pk at *
          generalize q pk = qk at *
          have q5 : (0 : Int) ≤ (pk : Int) := by omega
          have q6 : (pk : Int) < 41 := by omega
          go_wp2
          go_roundw
          case rel => exact ⟨k + 1, _, by go_num, hlt, C3, J3⟩
          case measure => simp [intOf] <;> omega
        · obtain rfl : k = rs.length := by omega
          have SL := Lib.hid (A.sol_of H2.out hcl.out P0.out)
          obtain ⟨u0, v0, p0, q0, hr⟩ := hj.out.rs
          have hst := hj.out.st
          have BL := Lib.hid hj.out.bl
          clear hj hcl H2 P0
          go_wp2_with (first | (refine wpList_load_st rfl (.tmp 3) rfl (w.heap.size + 1) rfl u v p q hst ?_) | (refine wpList_store_st rfl (.tmp 2) (.tmp 33) rfl w.heap.size rfl u v p q rfl u0 v0 p0 q0 hr ?_; intro w' hs' hg' hz'))
          have hld := C.run_load_st hs'
          have hBL := below_of_only hg' (Nat.le_refl _) BL.out.size
          have BL2 := Lib.hid (BL.out.trans hBL)
          refine bodyPost_ret (v := .agg (C.stA u v p q)) (results_cell (t := 2) (ty := 52) rfl rfl hld) rfl ?_
          exact ⟨u, v, p, q, rfl, SL.out, BL2.out⟩
end Go.Proofs.Ytoemhphgnpedmaa
