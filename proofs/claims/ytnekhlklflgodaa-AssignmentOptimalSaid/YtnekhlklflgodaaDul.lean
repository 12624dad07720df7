/-
  The walks of layer 29: Duals. By an AI agent.
-/
import Derived.Lib.SliceRun
import Derived.Laws.CopyOwn
import Derived.Test.YtnekhlklflgodaaOmt
namespace Go.Proofs.Ytnekhlklflgodaa
open Go.RowKit

/-- Numbers that bound the totals from below, and reach one. -/
theorem A.duals_sum {n : Nat} {c : Nat → Nat → Int} {u v : Nat → Int} {col p N : Nat → Nat} (hf : ∀ r j, 1 ≤ r → r ≤ n → 1 ≤ j → j ≤ n → u r + v j ≤ c r j) (hp : A.PM n (fun r j => u r + v j = c r j) col p) (hN : A.Best n c N) :
    A.tot n c N = ((A.nums n).map u).sum + ((A.nums n).map v).sum := by
  have hc := A.pm_pf hp
  have lo : ∀ N, A.Pf n N → ((A.nums n).map fun r => u r + v (N r)).sum = ((A.nums n).map u).sum + ((A.nums n).map v).sum := fun N hN => by
    rw [A.sum_add u (fun r => v (N r)), A.pf_sum hN v]
  have le : ∀ N, A.Pf n N → ((A.nums n).map fun r => u r + v (N r)).sum ≤ A.tot n c N := fun N hN => A.sum_le (fun r hr => by
    have := A.mem_nums.1 hr
    have := hN.rg r this.1 this.2
    exact hf _ _ (A.mem_nums.1 hr).1 (A.mem_nums.1 hr).2 this.1 this.2)
  have e : A.tot n c col = ((A.nums n).map u).sum + ((A.nums n).map v).sum := by
    rw [← lo col hc]
    exact A.sum_congr (fun r hr => ((hp.cr r (A.mem_nums.1 hr).1 (A.mem_nums.1 hr).2).2.2.2).symm)
  have h1 := hN.min col hc
  have h2 := le N hN.pf
  have h3 := lo N hN.pf
  omega
def C.dl (n : Nat) (u : Nat → Int) : List Int := (List.range n).map fun t => u (t + 1)
theorem C.dl_len (n : Nat) (u : Nat → Int) : (C.dl n u).length = n := by simp [C.dl]
theorem C.dl_get (n : Nat) (u : Nat → Int) {i : Nat} (h : i < (C.dl n u).length) : (C.dl n u)[i] = u (i + 1) := by simp [C.dl]
/-- The sum of the first i of both. -/
def C.dsum (u v : Nat → Int) (i : Nat) : Int := ((List.range i).map fun t => u (t + 1) + v (t + 1)).sum
theorem C.dsum_succ (u v : Nat → Int) (i : Nat) : C.dsum u v (i + 1) = C.dsum u v i + (u (i + 1) + v (i + 1)) := by
  unfold C.dsum
  rw [List.range_succ, List.map_append, List.sum_append]
  simp
theorem C.dsum_all (u v : Nat → Int) (n : Nat) : C.dsum u v n = ((A.nums n).map u).sum + ((A.nums n).map v).sum := by
  rw [← A.sum_add]
  unfold C.dsum A.nums
  rw [show List.range' 1 n = (List.range n).map (· + 1) from by
    rw [List.range_eq_range', show (fun x : Nat => x + 1) = fun x => 1 + x from by funext x; omega, List.map_add_range'], List.map_map]
  rfl

/-- A row of integers that the call made. -/
def C.RowOut (l : List Int) (w w' : World) (e : Ending) : Prop := ∃ A1 c1, e = .returned (.slice A1 l.length c1) ∧ Reads w' w'.heap.size 1 A1 l.length (C.ns l) ∧ Below w.heap.size w w'
set_option maxHeartbeats 2000000 in
theorem clone_any (B : Nat) (ad : Addr) (cap : Nat) (l : List Int) (w : World) (hr : Reads w B 1 (some ad) l.length (C.ns l)) (hB : B ≤ w.heap.size) (hl : l.length ≤ 1000) :
    Calls Try.prog 22 #[.slice (some ad) l.length cap] w fun e w' => C.RowOut l w w' e := by
  have HR1 := (hr.alloc hB (.cells #[] 3))
  have own0 := World.ownsRow_lit (base := w.heap.size) (e := 3) (size := 1) w #[] 0 (Nat.le_refl _) (by decide) rfl
  have hb0 : Below w.heap.size w (w.alloc (.cells #[] 3)) := (Below.refl _ _).alloc (Nat.le_refl _) _
  obtain ⟨i0, hi0, hz0, hz1, hz2⟩ := info_parts infoInt
  have hq := fun w A n => Lib.run_eql_slice_nil (P := Try.prog) w 23 3 A n cap 0 0 Try.underlying23
  clear hr
  go_enter Try.func22, Try.ntmps22
  go_wp2_with (at_builtin; refine wpList_append_any _ rfl (.tmp 5) (.tmp 6) _ rfl w.heap.size 3 i0 _ 1 8 Try.underlying23 hi0 hz0 hz1 hz2 rfl (by omega) (.slice (some ⟨w.heap.size, 0, none⟩) 0 0) 0 [] rfl own0 B (some ad) l.length cap _ rfl HR1 (by intro u hu; simp only [C.ns, List.mem_map] at hu; obtain ⟨x, _, rfl⟩ := hu; rfl) (by simp only [maxLen]; omega) (by omega) hb0.size ?_; intro v1 w1 hown1 hg1 hat1)
  simp only [Nat.zero_add, List.nil_append] at hown1
  obtain ⟨A1, c1, rfl, hrd⟩ := own_reads hown1
  go_ret
  exact ⟨A1, c1, rfl, hrd, hb0.grown hg1 hb0.size (own_below own0 (Nat.le_refl _))⟩
/-- What Duals says of a table that is well formed. -/
def C.DualOut (n : Nat) (c : Nat → Nat → Int) (w w' : World) (e : Ending) : Prop := ∃ A1 c1 A2 c2 u v q p, e = .returned (.tuple #[.slice A1 n c1, .slice A2 n c2, .int .i64 0]) ∧ Reads w' w'.heap.size 1 A1 n (C.ns (C.dl n u)) ∧ Reads w' w'.heap.size 1 A2 n (C.ns (C.dl n v)) ∧ Below w.heap.size w w' ∧
  (∀ r j, 1 ≤ r → r ≤ n → 1 ≤ j → j ≤ n → u r + v j ≤ c r j) ∧ A.PM n (fun r j => u r + v j = c r j) q p ∧ (∀ r, 1 ≤ r → r ≤ n → 0 ≤ u r ∧ u r ≤ 50000000) ∧ ∀ r, 1 ≤ r → r ≤ n → -50000000 ≤ v r ∧ v r ≤ 0
theorem C.St.reads_u {w : World} {b : Nat} {u v : Nat → Int} {p q : Nat → Nat} (h : C.St w b u v p q) {n : Nat} (hn : n ≤ 40) : Reads w (b + 1) 1 (some ⟨b, 1, none⟩) n (C.ns (C.dl n u)) :=
  ⟨by simp [C.ns, C.dl_len], fun _ => ⟨_, rfl, by simp, fun j x hx => by
    have hj : j < n := by
      have := (List.getElem?_eq_some_iff.1 hx).1
      simpa [C.ns, C.dl_len] using this
    have e : x = .int .i64 (u (j + 1)) := by simpa [C.ns, C.dl, hj] using hx.symm
    rw [e]
    have := h.u_ (i := j + 1) (by omega)
    rw [show (⟨b, 1, none⟩ : Addr).add j = ⟨b, j + 1, none⟩ from by unfold Addr.add; split <;> simp_all [Nat.add_comm]]
    exact this⟩⟩
theorem C.St.reads_v {w : World} {b : Nat} {u v : Nat → Int} {p q : Nat → Nat} (h : C.St w b u v p q) {n : Nat} (hn : n ≤ 40) : Reads w (b + 1) 1 (some ⟨b, 42, none⟩) n (C.ns (C.dl n v)) :=
  ⟨by simp [C.ns, C.dl_len], fun _ => ⟨_, rfl, by simp, fun j x hx => by
    have hj : j < n := by
      have := (List.getElem?_eq_some_iff.1 hx).1
      simpa [C.ns, C.dl_len] using this
    have e : x = .int .i64 (v (j + 1)) := by simpa [C.ns, C.dl, hj] using hx.symm
    rw [e]
    have := h.v_ (i := j + 1) (by omega)
    rw [show (⟨b, 42, none⟩ : Addr).add j = ⟨b, 41 + (j + 1), none⟩ from by unfold Addr.add; split <;> simp_all <;> omega]
    exact this⟩⟩

set_option maxRecDepth 100000 in
set_option maxHeartbeats 16000000 in
theorem duals_sq (n : Nat) (Ad : Option Addr) (cp : Nat) (rs : List (Option Addr × Nat × List Int)) (w : World) (h : C.Mx w w.heap.size Ad rs) (hq : C.Sq (C.mt rs)) (hl : rs.length = n) :
    Calls Try.prog 17 #[.slice Ad n cp] w fun e w' => C.DualOut n (C.cst (C.mt rs)) w w' e := by
  have hlm : (C.mt rs).length = n := by simp [C.mt, hl]
  have h40 : n ≤ 40 := by have := hq.1; omega
  have CK := check_any w.heap.size Ad cp rs w h (Nat.le_refl _)
  rw [C.chk_of_sq hq, hl] at CK
  have CK := Lib.hid CK
  have SV : Hid (∀ w', Below w.heap.size w w' → Calls Try.prog 19 #[.slice Ad n cp] w' fun e w'' => C.SolOut n (C.cst (C.mt rs)) w' w'' e) := Lib.hid (fun w' hb => by
    have := solve_any w.heap.size Ad cp rs w' (h.below hb (Nat.le_refl _)) hq hb.size
    rw [hl] at this
    exact this)
  generalize C.cst (C.mt rs) = c at *
  have u1 : IntKind.i64.wrap ((n : Int) + 1) = ((n + 1 : Nat) : Int) := by simp [IntKind.wrap, IntKind.bits, IntKind.signed]; omega
  clear h hq hl hlm
  go_enter Try.func17, Try.ntmps17
  go_wp2_with fail
  refine CK.out.mono ?_
  rintro e' w1 ⟨rfl, b1⟩
  clear CK
  go_wp2_with fail
  refine (SV.out w1 b1).mono ?_
  rintro e' w2 ⟨u, v, p, q, rfl, hsol, b2'⟩
  have b2 := b1.trans (b2'.mono b1.size)
  have BDS := A.sol_bounds hsol h40
  have HBU := Lib.hid BDS.1
  have HBV := Lib.hid BDS.2
  have FE := Lib.hid hsol.feas
  have PM0 := Lib.hid hsol.pm
  have Z2 : C.St (w2.alloc (.cells (C.stA (fun _ => 0) (fun _ => 0) (fun _ => 0) (fun _ => 0)) 45)) w2.heap.size (fun _ => 0) (fun _ => 0) (fun _ => 0) (fun _ => 0) := C.heap_new w2 _
  have B2 := Lib.hid b2
  clear b2' BDS hsol SV b1 b2
  go_wp2_with (first | (refine wpList_alloc_at rfl 45 rfl _ C.zero45 _ rfl ?_) | (refine wpList_store_st rfl (.tmp 6) (.tmp 13) rfl w2.heap.size rfl u v p q rfl _ _ _ _ Z2 ?_; intro w3 hs3 hg3 hz3))
  obtain ⟨Sb, hSb⟩ : ∃ Sb, w2.heap.size = Sb := ⟨_, rfl⟩
  have B3 : Hid (Below w.heap.size w w3) := Lib.hid ((B2.out.alloc B2.out.size _).trans (below_of_only (B := w.heap.size) hg3 B2.out.size (by simp; have := B2.out.size; omega)))
  rw [hSb] at hs3
  have ST := Lib.hid hs3
  have hsb : Sb < w3.heap.size := hs3.lt
  rw [hSb]
  clear hs3 hg3 hz3 hSb Z2 B2
  go_wp2_with fail
  have K1 : Hid (∀ w' : World, Below w3.heap.size w3 w' → Calls Try.prog 22 #[.slice (some ⟨Sb, 1, none⟩) n 40] w' fun e w'' => (∃ A1 c1, e = .returned (.slice A1 n c1) ∧ Hid (Reads w'' w''.heap.size 1 A1 n (C.ns (C.dl n u)))) ∧ Hid (Below w'.heap.size w' w'') ∧ Below w3.heap.size w3 w'') := Lib.hid (fun w' hb => by
    have h := clone_any (Sb + 1) ⟨Sb, 1, none⟩ 40 (C.dl n u) w' (by rw [C.dl_len]; exact (ST.out.below hb hsb).reads_u h40) (Nat.le_trans hsb hb.size) (by rw [C.dl_len]; omega)
    unfold C.RowOut at h
    rw [C.dl_len] at h
    refine h.mono ?_
    rintro e w'' ⟨A1, c1, rfl, h1, h2⟩
    exact ⟨⟨A1, c1, rfl, Lib.hid h1⟩, Lib.hid h2, hb.trans (h2.mono hb.size)⟩)
  have K2 : Hid (∀ w' : World, Below w3.heap.size w3 w' → Calls Try.prog 22 #[.slice (some ⟨Sb, 42, none⟩) n 40] w' fun e w'' => (∃ A1 c1, e = .returned (.slice A1 n c1) ∧ Hid (Reads w'' w''.heap.size 1 A1 n (C.ns (C.dl n v)))) ∧ Hid (Below w'.heap.size w' w'') ∧ Below w3.heap.size w3 w'') := Lib.hid (fun w' hb => by
    have h := clone_any (Sb + 1) ⟨Sb, 42, none⟩ 40 (C.dl n v) w' (by rw [C.dl_len]; exact (ST.out.below hb hsb).reads_v h40) (Nat.le_trans hsb hb.size) (by rw [C.dl_len]; omega)
    unfold C.RowOut at h
    rw [C.dl_len] at h
    refine h.mono ?_
    rintro e w'' ⟨A1, c1, rfl, h1, h2⟩
    exact ⟨⟨A1, c1, rfl, Lib.hid h1⟩, Lib.hid h2, hb.trans (h2.mono hb.size)⟩)
  have AL : Try.prog.arrayLen 43 = 41 := by kernel_rfl
  have HS : ∀ w', (sizeOf (Try.prog.elem 43)).run Try.prog w' = .ok 1 w' := fun w' => by kernel_rfl
  have e0 : ((n : Int) + 1).toNat = n + 1 := by omega
  have SL1 : ∀ w', (Instr.sliceAt 43 (.pointer (some ⟨Sb, 0, none⟩)) (some (.int .i64 1)) (some (.int .i64 ((n : Int) + 1))) none).run Try.prog w' = .ok (.slice (some ⟨Sb, 1, none⟩) n 40) w' := fun w' => by
    rw [run_sliceAt_array_lh (P := Try.prog) (w := w') (t := 43) (a := ⟨Sb, 0, none⟩) Try.underlying43 .i64 .i64 1 ((n : Int) + 1) (by omega) (by omega) (by rw [AL]; omega), HS, AL, e0]
    rfl
  have SL2 : ∀ w', (Instr.sliceAt 43 (.pointer (some ⟨Sb, 41, none⟩)) (some (.int .i64 1)) (some (.int .i64 ((n : Int) + 1))) none).run Try.prog w' = .ok (.slice (some ⟨Sb, 42, none⟩) n 40) w' := fun w' => by
    rw [run_sliceAt_array_lh (P := Try.prog) (w := w') (t := 43) (a := ⟨Sb, 41, none⟩) Try.underlying43 .i64 .i64 1 ((n : Int) + 1) (by omega) (by omega) (by rw [AL]; omega), HS, AL, e0]
    rfl
  have S0 : Below w3.heap.size w3 w3.drew := (Below.refl _ _).drew
  have q1 : ((n + 1 : Nat) : Int) - 1 = (n : Int) := by omega
  have q2 : (1 : Int) ≤ ((n + 1 : Nat) : Int) := by omega
  have q3 : ((n + 1 : Nat) : Int) ≤ 41 := by omega
  go_region_held3 (fun w' => Below w3.heap.size w3 w') (first | assumption | exact S0) (first | (go_at_call 22; (with_reducible refine (K1.out _ ?_).mono ?_); (first | assumption | exact S0); rintro _ wa ⟨⟨Au, cu, rfl, ru⟩, ba, sa⟩) | (go_at_call 22; (with_reducible refine (K2.out _ ?_).mono ?_); (first | assumption | exact S0); rintro _ wb ⟨⟨Av, cv, rfl, rv⟩, bb, sb⟩))
  clear K1 K2 S0 SL1 SL2 HS e0 AL
  go_wp2_with fail
  go_ret3
  exact ⟨Au, cu, Av, cv, u, v, q, p, rfl, ((ru.out.below bb.out (Nat.le_refl _)).more bb.out.size), rv.out, B3.out.trans (sb.mono B3.out.size), FE.out, PM0.out, HBU.out, HBV.out⟩
end Go.Proofs.Ytnekhlklflgodaa
