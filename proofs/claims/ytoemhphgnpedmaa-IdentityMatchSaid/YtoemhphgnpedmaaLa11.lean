/-
  The statements of layer 30: IdentityMatch. By an AI agent.
-/
import Derived.Test.YtoemhphgnpedmaaRMt
import Derived.Test.YtoemhphgnpedmaaSm
namespace Go.Proofs.Ytoemhphgnpedmaa
open Go.RowKit

theorem I.fresh_congr {nx od : List I.Rg} {N N' : Nat → Nat} {i : Nat} (h : N (i + 1) = N' (i + 1)) : I.fresh nx od N i = I.fresh nx od N' i := by unfold I.fresh; rw [h]
theorem I.cntF_congr {nx od : List I.Rg} {N N' : Nat → Nat} : ∀ i, (∀ j, j < i → N (j + 1) = N' (j + 1)) → I.cntF nx od N i = I.cntF nx od N' i
  | 0, _ => rfl
  | i + 1, h => by
    simp only [I.cntF]
    rw [I.cntF_congr i (fun j hj => h j (by omega)), I.fresh_congr (h i (by omega))]
theorem I.outsW_congr {nx od : List I.Rg} {N N' : Nat → Nat} (un : Int) (h : ∀ j, j < nx.length → N (j + 1) = N' (j + 1)) : I.outsW nx od N un = I.outsW nx od N' un := by
  unfold I.outsW
  apply List.map_congr_left
  intro i hi
  rw [List.mem_range] at hi
  unfold I.outW I.idW
  rw [I.fresh_congr (h i hi), I.cntF_congr i (fun j hj => h j (by omega)), h i hi]
theorem I.best_same {nx od : List I.Rg} {N N' : Nat → Nat} (h : A.Best (I.dim nx od) (I.cst nx od) N) (h' : A.Best (I.dim nx od) (I.cst nx od) N') (j : Nat) (hj : j < nx.length) : N (j + 1) = N' (j + 1) :=
  A.best_unique h h' (j + 1) (by omega) (by unfold I.dim; omega)

set_option maxRecDepth 100000 in
set_option maxHeartbeats 16000000 in
theorem matchlaw_any (Ao : Option Addr) (co : Nat) (od : List I.Rg) (An : Option Addr) (cn : Nat) (nx : List I.Rg) (un : Int) (w : World) (hro : Reads w w.heap.size 8 Ao od.length (I.rcs od)) (ho : I.Ok od) (_ : ∀ r ∈ od, I.Num r) (hco : od.length ≤ co) (hrn : Reads w w.heap.size 8 An nx.length (I.rcs nx)) (hn : I.Ok nx) (_ : ∀ r ∈ nx, I.Num r) (hcn : nx.length ≤ cn) (hu0 : -9223372036854775808 ≤ un) (hu1 : un ≤ 9223372036854775807) :
    Calls Try.prog 5 #[.slice Ao od.length co, .slice An nx.length cn, .int .i64 un] w fun e w' => e = .returned (.bool true) ∧ Below w.heap.size w w' := by
  have G0 := Lib.hid (great_any Ao co w.heap.size od 7 w hro ho (by decide))
  have G1 := Lib.hid (great_any An cn w.heap.size nx 7 w hrn hn (by decide))
  have hl0 := ho.1
  have hl1 := hn.1
  unfold maxLen at hl0 hl1
  cases g0 : I.great od 7 with
  | true =>
    rw [g0] at G0
    clear hro hrn ho hn G1
    go_enter Try.func5, Try.ntmps5
    go_wp2_with fail
    refine G0.out.mono ?_
    rintro e w1 ⟨rfl, rfl⟩
    go_wp2_with fail
    refine (awake_any _).mono ?_
    rintro e w5 ⟨rfl, b5⟩
    go_wp2_with fail
    go_ret
    exact ⟨rfl, b5⟩
  | false =>
  rw [g0] at G0
  have l0 := (I.great_false g0).1
  clear g0
  cases g1 : I.great nx 7 with
  | true =>
    rw [g1] at G1
    clear hro hrn ho hn
    go_enter Try.func5, Try.ntmps5
    go_wp2_with fail
    refine G0.out.mono ?_
    rintro e w1 ⟨rfl, rfl⟩
    go_wp2_with fail
    refine G1.out.mono ?_
    rintro e w1 ⟨rfl, rfl⟩
    go_wp2_with fail
    refine (awake_any _).mono ?_
    rintro e w5 ⟨rfl, b5⟩
    go_wp2_with fail
    go_ret
    exact ⟨rfl, b5⟩
  | false =>
  rw [g1] at G1
  have l1 := (I.great_false g1).1
  clear g1
  have HRO := Lib.hid hro
  have HRN := Lib.hid hrn
  clear hro hrn ho hn
  go_enter Try.func5, Try.ntmps5
  go_wp2_with fail
  refine G0.out.mono ?_
  rintro e w1 ⟨rfl, rfl⟩
  go_wp2_with fail
  refine G1.out.mono ?_
  rintro e w1 ⟨rfl, rfl⟩
  go_wp2_with fail
  refine (match_any w.heap.size Ao An co cn od nx un w HRO.out HRN.out (Nat.le_refl _) hco hcn (by omega) (by omega) ⟨hu0, hu1⟩).mono ?_
  rintro e w2 ⟨N, v2, rfl, own2, best2, b2⟩
  have OWN2 := Lib.hid own2
  have BEST2 := Lib.hid best2
  have C2 : Hid (wrap64 (un + (I.cntF nx od N nx.length : Nat)) = wrap64 (un + (I.cntF nx od N nx.length : Nat))) := Lib.hid rfl
  obtain ⟨n2, hn2⟩ : ∃ n2, wrap64 (un + (I.cntF nx od N nx.length : Nat)) = n2 := ⟨_, rfl⟩
  rw [hn2]
  have HN2 := Lib.hid hn2
  clear hn2 C2 own2 best2
  go_wp2_with fail
  refine (refmatch_any w.heap.size Ao An co cn od nx un w2 (HRO.out.below b2 (Nat.le_refl _)) (HRN.out.below b2 (Nat.le_refl _)) b2.size (by omega) (by omega) ⟨hu0, hu1⟩).mono ?_
  rintro e w3 ⟨N', v3, rfl, own3, best3, b3⟩
  have same := I.best_same BEST2.out best3
  rw [← I.outsW_congr un same] at own3
  rw [← I.cntF_congr nx.length same, HN2.out]
  have lo := I.outsW_len nx od N un
  obtain ⟨A2, c2, rfl, r2⟩ := own_reads (own_under OWN2.out b3)
  obtain ⟨A3, c3, rfl, r3⟩ := own_reads own3
  have SM := Lib.hid (same_any A2 A3 c2 c3 w3.heap.size (I.outsW nx od N un) (I.outsW nx od N un) w3 (by rw [lo]; exact r2) (by rw [lo]; exact r3) (by rw [lo]; unfold maxLen; omega) (by rw [lo]; unfold maxLen; omega))
  rw [lo, decide_eq_true rfl] at SM
  clear OWN2 BEST2 HN2 own3 best3 same lo r2 r3
  have q1 : (n2 == n2) = true := beq_self_eq_true _
  go_wp2_with fail
  refine SM.out.mono ?_
  rintro e w4 ⟨rfl, n, rfl⟩
  go_wp2_with fail
  refine (awake_any _).mono ?_
  rintro e w5 ⟨rfl, b5⟩
  go_wp2_with fail
  go_ret
  exact ⟨ret_bool (by simp), b2.trans ((b3.mono b2.size).trans ((below_drewN (Below.refl _ w3) n).mono (Nat.le_trans b2.size b3.size) |>.trans (b5.mono (Nat.le_trans b2.size b3.size))))⟩
end Go.Proofs.Ytoemhphgnpedmaa
