/-
  The statements of layer 30: IdentityUnique. By an AI agent.
-/
import Derived.Test.YtoemhphgnpedmaaUn
import Derived.Test.YtoemhphgnpedmaaSm
namespace Go.Proofs.Ytoemhphgnpedmaa
open Go.RowKit

set_option maxRecDepth 100000 in
set_option maxHeartbeats 16000000 in
theorem unique_any (Ao An : Option Addr) (co cn : Nat) (od nx : List I.Rg) (un : Int) (w : World) (hro : Reads w w.heap.size 8 Ao od.length (I.rcs od)) (hrn : Reads w w.heap.size 8 An nx.length (I.rcs nx)) (ho : I.Ok od) (hn : I.Ok nx) (hco : od.length ≤ co) (hcn : nx.length ≤ cn) :
    Calls Try.prog 7 #[.slice Ao od.length co, .slice An nx.length cn, .int .i64 un] w fun e w' => e = .returned (.bool true) ∧ Below w.heap.size w w' := by
  have G0 := Lib.hid (great_any Ao co w.heap.size od 12 w hro ho (by decide))
  have G1 := Lib.hid (great_any An cn w.heap.size nx 12 w hrn hn (by decide))
  have hl0 := ho.1
  have hl1 := hn.1
  unfold maxLen at hl0 hl1
  cases g0 : I.great od 12 with
  | true =>
    rw [g0] at G0
    clear hro hrn ho hn G1
    go_enter Try.func7, Try.ntmps7
    go_wp2_with fail
    refine G0.out.mono ?_
    rintro e w1 ⟨rfl, rfl⟩
    go_wp2_with fail
    refine (awake_any _).mono ?_
    rintro e w5 ⟨rfl, b5⟩
    go_wp2_with fail
    go_ret
    exact ⟨rfl, b5⟩
  | false =>
  rw [g0] at G0
  have l0 := (I.great_false g0).1
  clear g0
  cases g1 : I.great nx 12 with
  | true =>
    rw [g1] at G1
    clear hro hrn ho hn
    go_enter Try.func7, Try.ntmps7
    go_wp2_with fail
    refine G0.out.mono ?_
    rintro e w1 ⟨rfl, rfl⟩
    go_wp2_with fail
    refine G1.out.mono ?_
    rintro e w1 ⟨rfl, rfl⟩
    go_wp2_with fail
    refine (awake_any _).mono ?_
    rintro e w5 ⟨rfl, b5⟩
    go_wp2_with fail
    go_ret
    exact ⟨rfl, b5⟩
  | false =>
  rw [g1] at G1
  have l1 := (I.great_false g1).1
  clear g1
  have cases3 : (un < 0 ∨ (0 ≤ un ∧ 1099511627776 < un)) ∨ (0 ≤ un ∧ un ≤ 1099511627776) := by omega
  rcases cases3 with hu | ⟨u0, u1⟩
  · rcases hu with hu | ⟨hu0, hu⟩
    all_goals
      clear hro hrn ho hn
      go_enter Try.func7, Try.ntmps7
      go_wp2_with fail
      refine G0.out.mono ?_
      rintro e w1 ⟨rfl, rfl⟩
      go_wp2_with fail
      refine G1.out.mono ?_
      rintro e w1 ⟨rfl, rfl⟩
      go_wp2_with fail
      refine (awake_any _).mono ?_
      rintro e w5 ⟨rfl, b5⟩
      go_wp2_with fail
      go_ret
      exact ⟨rfl, b5⟩
  obtain ⟨d, hd⟩ : ∃ d : Bool, d = true ↔ I.Diff od un := by
    by_cases h : I.Diff od un
    · exact ⟨true, by simp [h]⟩
    · exact ⟨false, by simp [h]⟩
  have DF := Lib.hid (different_any Ao co w.heap.size od un d w hro (by unfold maxLen; omega) hd)
  cases d with
  | false =>
    clear hro hrn ho hn
    go_enter Try.func7, Try.ntmps7
    go_wp2_with fail
    refine G0.out.mono ?_
    rintro e w1 ⟨rfl, rfl⟩
    go_wp2_with fail
    refine G1.out.mono ?_
    rintro e w1 ⟨rfl, rfl⟩
    go_wp2_with fail
    refine DF.out.mono ?_
    rintro e w1 ⟨rfl, n, rfl⟩
    go_wp2_with fail
    refine (awake_any _).mono ?_
    rintro e w5 ⟨rfl, b5⟩
    go_wp2_with fail
    go_ret
    exact ⟨rfl, (below_drewN (Below.refl _ w) n).trans b5⟩
  | true =>
  have D := Lib.hid (hd.1 rfl)
  clear hd
  go_enter Try.func7, Try.ntmps7
  go_wp2_with fail
  refine G0.out.mono ?_
  rintro e w1 ⟨rfl, rfl⟩
  go_wp2_with fail
  refine G1.out.mono ?_
  rintro e w1 ⟨rfl, rfl⟩
  go_wp2_with fail
  refine DF.out.mono ?_
  rintro e w1 ⟨rfl, n, rfl⟩
  clear G0 G1 DF ho hn
  have HRO := Lib.hid hro
  have HRN := Lib.hid hrn
  clear hro hrn
  go_wp2_with fail
  refine (matchun_any w.heap.size Ao An co cn od nx un (w.drewN n) (HRO.out.drewN n) (HRN.out.drewN n) (Nat.le_refl _) hco hcn (by omega) (by omega) ⟨u0, by omega⟩).mono ?_
  rintro e w2 ⟨N, A, c, rfl, own, best, b2⟩
  have hm := I.cntF_le nx od N nx.length
  have DO := Lib.hid (I.outs_diff (N := N) rfl best.pf D.out)
  have HID := Lib.hid (fun i (h : I.ident nx od N un i < un) => I.has_ident h)
  have hlo : (I.outs nx od N un).length = nx.length := I.outs_length _ _ _ _
  have RO := Lib.hid (Reads.of_own own)
  have GET := Lib.hid (fun i (h : i < nx.length) => I.outs_get nx od N un h)
  have hb2 := Lib.hid ((below_drewN (Below.refl _ w) n).trans b2)
  generalize I.outs nx od N un = os at *
  generalize I.cntF nx od N nx.length = m at *
  have DO2 := Lib.hid (different_any A c w2.heap.size os (un + (m : Int)) true w2 (by rw [hlo]; exact RO.out) (by unfold maxLen; omega) (by simp [DO.out]))
  rw [hlo] at DO2
  have HO := Lib.hid hlo
  have q1 : wrap64 (un + (nx.length : Int)) = un + (nx.length : Int) := by unfold wrap64; omega
  have q2 : (un + (m : Int) < un) = False := eq_false (by omega)
  have q3 : (un + (nx.length : Int) < un + (m : Int)) = False := eq_false (by omega)
  clear hlo own best D DO b2
  go_wp2_with fail
  refine DO2.out.mono ?_
  rintro e w3 ⟨rfl, n3, rfl⟩
  clear DO2 q1 q2 q3
  go_wp2_with fail
  go_loopw [65] (fun i wr => ∃ k : Nat, k ≤ nx.length ∧ i = .int .i64 k ∧ Below w2.heap.size w2 wr) (fun i _ => nx.length - (intOf i).toNat)
  case atStart => exact ⟨0, Nat.zero_le _, rfl, below_drewN (Below.refl _ w2) n3⟩
  case round =>
    obtain ⟨k, hk, rfl, hb⟩ := hrel
    by_cases hlt : k < nx.length
    · have r1 : Reads wr w2.heap.size 8 A os.length (I.rcs os) := by rw [HO.out]; exact RO.out.below hb (Nat.le_refl _)
      have r2 : Reads wr w.heap.size 8 An nx.length (I.rcs nx) := HRN.out.below (hb2.out.trans (hb.mono hb2.out.size)) (Nat.le_refl _)
      obtain ⟨b1, o1, rfl, hb1, h1⟩ := r1.rg (by have := HO.out; omega)
      obtain ⟨bn, on, rfl, hbn, h2⟩ := r2.rg (by omega)
      have a1 := h1 k (by have := HO.out; omega)
      have a2 := h2 k hlt
      have ge := GET.out k hlt
      have hid := HID.out k
      rw [ge] at a1
      unfold I.outR at a1
      clear h1 h2 r1 r2 ge
      have hbb1 : b1 < wr.heap.size := Nat.lt_of_lt_of_le hb1 hb.size
      have hbbn : bn < wr.heap.size := Nat.lt_of_lt_of_le hbn (Nat.le_trans hb2.out.size hb.size)
      have HB := Lib.hid hb
      have A2 : Hid (∀ o : Obj, I.At (wr.alloc o) bn (on + k * 8) (nx.getD k default)) := Lib.hid (fun o => a2.below ((Below.refl wr.heap.size wr).alloc (Nat.le_refl _) o) hbbn)
      have HAS : Hid (∀ o id, Calls Try.prog 21 #[.slice Ao od.length co, .int .i64 id] (wr.alloc o) fun e w' => e = .returned (.bool (I.has od id)) ∧ wr.alloc o = w') := Lib.hid (fun o id => has_any Ao co w.heap.size od id (wr.alloc o) (HRO.out.below ((hb2.out.trans (hb.mono hb2.out.size)).alloc (Nat.le_trans hb2.out.size hb.size) o) (Nat.le_refl _)) (by unfold maxLen; omega))
      generalize I.ident nx od N un k = id at *
      have NE := Lib.hid (fun w1 => I.neq_run (nx.getD k default) (nx.getD k default) w1)
      generalize nx.getD k default = r at *
      obtain ⟨rk, ri, rp, rt, rl, rb, rr, rlb⟩ := r
      simp only [I.Rg.val, I.Rg.cells] at NE
      have ne : ∀ w1 : World, (binOp .neq 27 (.agg #[.int .i64 rk, .int .i64 ri, .int .i64 rp, .int .i64 rt, .int .i64 rl, .int .i64 rb, .int .i64 rr, .string rlb]) (.agg #[.int .i64 rk, .int .i64 ri, .int .i64 rp, .int .i64 rt, .int .i64 rl, .int .i64 rb, .int .i64 rr, .string rlb])).run Try.prog w1 = .ok (.bool false) w1 := fun w1 => (NE.out w1).trans (by simp)
      obtain ⟨x0, x1, x2, x3, x4, x5, x6, x7⟩ := a1
      simp only at x0 x1 x2 x3 x4 x5 x6 x7
      have y : ∀ o : Obj, I.At (wr.alloc o) bn (on + k * 8) ⟨rk, ri, rp, rt, rl, rb, rr, rlb⟩ := A2.out
      have y0 := fun o => (y o).c0
      have y1 := fun o => (y o).c1
      have y2 := fun o => (y o).c2
      have y3 := fun o => (y o).c3
      have y4 := fun o => (y o).c4
      have y5 := fun o => (y o).c5
      have y6 := fun o => (y o).c6
      have y7 := fun o => (y o).c7
      simp only at y0 y1 y2 y3 y4 y5 y6 y7
      clear y NE A2 a2 hb
      have q1 : (0 : Int) ≤ (k : Int) := by omega
      have q2 : (k : Int) < (nx.length : Int) := by omega
      by_cases hid1 : id < un
      · have hhas := hid hid1
        clear hid
        go_wp2_with fail
        refine (HAS.out _ _).mono ?_
        rintro e w4 ⟨rfl, rfl⟩
        go_wp2_with fail
        go_region
        all_goals
          go_wp2_with fail
          refine ⟨⟨k + 1, by omega, by simp, ?_⟩, by simp [intOf]; omega⟩
          exact (HB.out.alloc HB.out.size _).drew
      · go_wp2_with fail
        go_region
        all_goals
          go_wp2_with fail
          refine ⟨⟨k + 1, by omega, by simp, ?_⟩, by simp [intOf]; omega⟩
          exact (HB.out.alloc HB.out.size _).drew
    · have q1 : (0 : Int) ≤ (k : Int) := by omega
      have q2 : ((k : Int) < (nx.length : Int)) = False := eq_false (by omega)
      go_wp2_with fail
      refine (awake_any _).mono ?_
      rintro e w5 ⟨rfl, b5⟩
      go_wp2_with fail
      go_ret
      exact ⟨ret_bool (by simp), hb2.out.trans ((hb.mono hb2.out.size).trans (b5.mono (Nat.le_trans hb2.out.size hb.size)))⟩
theorem uniquelaw_any (Ao : Option Addr) (co : Nat) (od : List I.Rg) (An : Option Addr) (cn : Nat) (nx : List I.Rg) (un : Int) (w : World) (hro : Reads w w.heap.size 8 Ao od.length (I.rcs od)) (ho : I.Ok od) (_ : ∀ r ∈ od, I.Num r) (hco : od.length ≤ co) (hrn : Reads w w.heap.size 8 An nx.length (I.rcs nx)) (hn : I.Ok nx) (_ : ∀ r ∈ nx, I.Num r) (hcn : nx.length ≤ cn) (_ : -9223372036854775808 ≤ un) (_ : un ≤ 9223372036854775807) :
    Calls Try.prog 7 #[.slice Ao od.length co, .slice An nx.length cn, .int .i64 un] w fun e w' => e = .returned (.bool true) ∧ Below w.heap.size w w' :=
  unique_any Ao An co cn od nx un w hro hrn ho hn hco hcn
end Go.Proofs.Ytoemhphgnpedmaa
