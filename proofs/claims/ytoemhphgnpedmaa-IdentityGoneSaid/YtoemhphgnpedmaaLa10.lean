/-
  The statements of layer 30: IdentityGone. By an AI agent.
-/
import Derived.Test.YtoemhphgnpedmaaGn
namespace Go.Proofs.Ytoemhphgnpedmaa
open Go.RowKit

set_option maxRecDepth 100000 in
set_option maxHeartbeats 8000000 in
theorem gonelaw_any (Ao : Option Addr) (co : Nat) (od : List I.Rg) (An : Option Addr) (cn : Nat) (nx : List I.Rg) (w : World) (hro : Reads w w.heap.size 8 Ao od.length (I.rcs od)) (ho : I.Ok od) (hno : ∀ r ∈ od, I.Num r) (hco : od.length ≤ co) (hrn : Reads w w.heap.size 8 An nx.length (I.rcs nx)) (hn : I.Ok nx) (hnn : ∀ r ∈ nx, I.Num r) (_ : nx.length ≤ cn) :
    Calls Try.prog 10 #[.slice Ao od.length co, .slice An nx.length cn] w fun e w' => e = .returned (.bool true) ∧ Below w.heap.size w w' := by
  have G0 := Lib.hid (great_any Ao co w.heap.size od 50 w hro ho (by decide))
  have G1 := Lib.hid (great_any An cn w.heap.size nx 50 w hrn hn (by decide))
  cases g0 : I.great od 50 with
  | true =>
    rw [g0] at G0
    clear hro hrn ho hn G1 hno hnn
    go_enter Try.func10, Try.ntmps10
    go_wp2_with fail
    refine G0.out.mono ?_
    rintro e w1 ⟨rfl, rfl⟩
    go_wp2_with fail
    refine (awake_any _).mono ?_
    rintro e w5 ⟨rfl, b5⟩
    go_wp2_with fail
    go_ret
    exact ⟨rfl, b5⟩
  | false =>
  rw [g0] at G0
  have l0 := (I.great_false g0).1
  clear g0
  cases g1 : I.great nx 50 with
  | true =>
    rw [g1] at G1
    clear hro hrn ho hn hno hnn
    go_enter Try.func10, Try.ntmps10
    go_wp2_with fail
    refine G0.out.mono ?_
    rintro e w1 ⟨rfl, rfl⟩
    go_wp2_with fail
    refine G1.out.mono ?_
    rintro e w1 ⟨rfl, rfl⟩
    go_wp2_with fail
    refine (awake_any _).mono ?_
    rintro e w5 ⟨rfl, b5⟩
    go_wp2_with fail
    go_ret
    exact ⟨rfl, b5⟩
  | false =>
  rw [g1] at G1
  have l1 := (I.great_false g1).1
  clear g1
  have HRO := Lib.hid hro
  have HRN := Lib.hid hrn
  have HNO := Lib.hid hno
  have HNN := Lib.hid hnn
  have GL := I.goneL_le nx od od.length
  clear hro hrn ho hn hno hnn
  go_enter Try.func10, Try.ntmps10
  go_wp2_with fail
  refine G0.out.mono ?_
  rintro e w1 ⟨rfl, rfl⟩
  go_wp2_with fail
  refine G1.out.mono ?_
  rintro e w1 ⟨rfl, rfl⟩
  go_wp2_with fail
  refine (gone_any Ao An co cn w.heap.size od nx w HRO.out HRN.out (Nat.le_refl _) HNO.out HNN.out (by omega) (by omega)).mono ?_
  rintro e w2 ⟨v2, rfl, own2, b2⟩
  go_wp2_with fail
  refine (refgone_any Ao An co cn w.heap.size od nx w2 (HRO.out.below b2 (Nat.le_refl _)) (HRN.out.below b2 (Nat.le_refl _)) b2.size hco (by omega) (by omega)).mono ?_
  rintro e w3 ⟨v3, rfl, own3, b3⟩
  obtain ⟨A2, c2, rfl, r2⟩ := own_reads own2
  obtain ⟨A3, c3, rfl, r3⟩ := own_reads own3
  have R2 := (r2.below b3 (Nat.le_refl _)).more b3.size
  go_wp2_with fail
  refine (sameints_any w3.heap.size A2 A3 c2 c3 _ _ w3 R2 r3 (by unfold maxLen; omega) (by unfold maxLen; omega)).mono ?_
  rintro e w4 ⟨rfl, n, rfl⟩
  rw [decide_eq_true rfl]
  go_wp2_with fail
  refine (awake_any _).mono ?_
  rintro e w5 ⟨rfl, b5⟩
  go_wp2_with fail
  go_ret
  exact ⟨ret_bool (by simp), b2.trans ((b3.mono b2.size).trans ((below_drewN (Below.refl _ w3) n).mono (Nat.le_trans b2.size b3.size) |>.trans (b5.mono (Nat.le_trans b2.size b3.size))))⟩
end Go.Proofs.Ytoemhphgnpedmaa
