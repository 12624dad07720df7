/-
  The statements of layer 30: IdentityUnlike. By an AI agent.
-/
import Derived.Test.YtoemhphgnpedmaaUn
import Derived.Test.YtoemhphgnpedmaaSm
namespace Go.Proofs.Ytoemhphgnpedmaa
open Go.RowKit

/-- Whether one of the first m old regions has a number and is like a region. -/
def I.fnd (od : List I.Rg) (id : Int) (r : I.Rg) (m : Nat) : Bool := (List.range m).any fun k => ((od.getD k default).id == id) && decide (300 ≤ I.like (od.getD k default) r)
theorem I.fnd_succ (od : List I.Rg) (id : Int) (r : I.Rg) (m : Nat) : I.fnd od id r (m + 1) = (I.fnd od id r m || (((od.getD m default).id == id) && decide (300 ≤ I.like (od.getD m default) r))) := by
  unfold I.fnd
  rw [List.range_succ, List.any_append]
  simp
theorem I.fnd_of {nx od : List I.Rg} {N : Nat → Nat} {un : Int} {k : Nat} (h : I.fresh nx od N k = false) : I.fnd od (I.ident nx od N un k) (nx.getD k default) od.length = true := by
  have hf := I.not_fresh h
  unfold I.fnd
  rw [List.any_eq_true]
  refine ⟨N (k + 1) - 1, by simp [hf.2.1], ?_⟩
  unfold I.ident
  rw [h, I.like_comm]
  simp only [Bool.false_eq_true, if_false]
  rw [Bool.and_eq_true]
  exact ⟨beq_self_eq_true _, decide_eq_true hf.2.2⟩

set_option maxRecDepth 100000 in
set_option maxHeartbeats 16000000 in
theorem unlike_any (Ao An : Option Addr) (co cn : Nat) (od nx : List I.Rg) (un : Int) (w : World) (hro : Reads w w.heap.size 8 Ao od.length (I.rcs od)) (hrn : Reads w w.heap.size 8 An nx.length (I.rcs nx)) (ho : I.Ok od) (hn : I.Ok nx) (hco : od.length ≤ co) (hcn : nx.length ≤ cn) :
    Calls Try.prog 8 #[.slice Ao od.length co, .slice An nx.length cn, .int .i64 un] w fun e w' => e = .returned (.bool true) ∧ Below w.heap.size w w' := by
  have G0 := Lib.hid (great_any Ao co w.heap.size od 12 w hro ho (by decide))
  have G1 := Lib.hid (great_any An cn w.heap.size nx 12 w hrn hn (by decide))
  have hl0 := ho.1
  have hl1 := hn.1
  unfold maxLen at hl0 hl1
  cases g0 : I.great od 12 with
  | true =>
    rw [g0] at G0
    clear hro hrn ho hn G1
    go_enter Try.func8, Try.ntmps8
    go_wp2_with fail
    refine G0.out.mono ?_
    rintro e w1 ⟨rfl, rfl⟩
    go_wp2_with fail
    refine (awake_any _).mono ?_
    rintro e w5 ⟨rfl, b5⟩
    go_wp2_with fail
    go_ret
    exact ⟨rfl, b5⟩
  | false =>
  rw [g0] at G0
  have l0 := (I.great_false g0).1
  clear g0
  cases g1 : I.great nx 12 with
  | true =>
    rw [g1] at G1
    clear hro hrn ho hn
    go_enter Try.func8, Try.ntmps8
    go_wp2_with fail
    refine G0.out.mono ?_
    rintro e w1 ⟨rfl, rfl⟩
    go_wp2_with fail
    refine G1.out.mono ?_
    rintro e w1 ⟨rfl, rfl⟩
    go_wp2_with fail
    refine (awake_any _).mono ?_
    rintro e w5 ⟨rfl, b5⟩
    go_wp2_with fail
    go_ret
    exact ⟨rfl, b5⟩
  | false =>
  rw [g1] at G1
  have l1 := (I.great_false g1).1
  clear g1
  have cases3 : (un < 0 ∨ (0 ≤ un ∧ 1099511627776 < un)) ∨ (0 ≤ un ∧ un ≤ 1099511627776) := by omega
  rcases cases3 with hu | ⟨u0, u1⟩
  · rcases hu with hu | ⟨hu0, hu⟩
    all_goals
      clear hro hrn ho hn
      go_enter Try.func8, Try.ntmps8
      go_wp2_with fail
      refine G0.out.mono ?_
      rintro e w1 ⟨rfl, rfl⟩
      go_wp2_with fail
      refine G1.out.mono ?_
      rintro e w1 ⟨rfl, rfl⟩
      go_wp2_with fail
      refine (awake_any _).mono ?_
      rintro e w5 ⟨rfl, b5⟩
      go_wp2_with fail
      go_ret
      exact ⟨rfl, b5⟩
  obtain ⟨d, hd⟩ : ∃ d : Bool, d = true ↔ I.Diff od un := by
    by_cases h : I.Diff od un
    · exact ⟨true, by simp [h]⟩
    · exact ⟨false, by simp [h]⟩
  have DF := Lib.hid (different_any Ao co w.heap.size od un d w hro (by unfold maxLen; omega) hd)
  cases d with
  | false =>
    clear hro hrn ho hn
    go_enter Try.func8, Try.ntmps8
    go_wp2_with fail
    refine G0.out.mono ?_
    rintro e w1 ⟨rfl, rfl⟩
    go_wp2_with fail
    refine G1.out.mono ?_
    rintro e w1 ⟨rfl, rfl⟩
    go_wp2_with fail
    refine DF.out.mono ?_
    rintro e w1 ⟨rfl, n, rfl⟩
    go_wp2_with fail
    refine (awake_any _).mono ?_
    rintro e w5 ⟨rfl, b5⟩
    go_wp2_with fail
    go_ret
    exact ⟨rfl, (below_drewN (Below.refl _ w) n).trans b5⟩
  | true =>
  have D := Lib.hid (hd.1 rfl)
  clear hd
  go_enter Try.func8, Try.ntmps8
  go_wp2_with fail
  refine G0.out.mono ?_
  rintro e w1 ⟨rfl, rfl⟩
  go_wp2_with fail
  refine G1.out.mono ?_
  rintro e w1 ⟨rfl, rfl⟩
  go_wp2_with fail
  refine DF.out.mono ?_
  rintro e w1 ⟨rfl, n, rfl⟩
  clear G0 G1 DF ho hn
  have HRO := Lib.hid hro
  have HRN := Lib.hid hrn
  clear hro hrn
  go_wp2_with fail
  refine (matchun_any w.heap.size Ao An co cn od nx un (w.drewN n) (HRO.out.drewN n) (HRN.out.drewN n) (Nat.le_refl _) hco hcn (by omega) (by omega) ⟨u0, by omega⟩).mono ?_
  rintro e w2 ⟨N, A, c, rfl, own, best, b2⟩
  have hm := I.cntF_le nx od N nx.length
  have NEW := Lib.hid (fun i (h : i < nx.length) => I.ident_new (N := N) D.out h)
  have FND := Lib.hid (fun i (h : I.fresh nx od N i = false) => I.fnd_of (un := un) h)
  have FRE : Hid (∀ i, I.fresh nx od N i = true → I.ident nx od N un i = un + I.cntF nx od N i ∧ I.cntF nx od N (i + 1) = I.cntF nx od N i + 1) := Lib.hid (fun i h => ⟨by unfold I.ident; rw [h]; simp, by simp [I.cntF, h]⟩)
  have OLD : Hid (∀ i, I.fresh nx od N i = false → I.cntF nx od N (i + 1) = I.cntF nx od N i) := Lib.hid (fun i h => by simp [I.cntF, h])
  have hlo : (I.outs nx od N un).length = nx.length := I.outs_length _ _ _ _
  have RO := Lib.hid (Reads.of_own own)
  have GET := Lib.hid (fun i (h : i < nx.length) => I.outs_get nx od N un h)
  have hb2 := Lib.hid ((below_drewN (Below.refl _ w) n).trans b2)
  have CLE := Lib.hid (I.cntF_le nx od N)
  generalize I.outs nx od N un = os at *
  have C0 : I.cntF nx od N 0 = 0 := rfl
  generalize hcf : I.cntF nx od N = cf at *
  have HCF := Lib.hid hcf
  clear hcf
  have HO := Lib.hid hlo
  clear hlo own best D b2
  go_wp2_with fail
  go_loopw [9, 49] (fun a i wr => ∃ k : Nat, k ≤ nx.length ∧ a = .int .i64 (un + (cf k : Nat)) ∧ i = .int .i64 k ∧ Below w2.heap.size w2 wr) (fun _ i _ => nx.length - (intOf i).toNat)
  case atStart => exact ⟨0, Nat.zero_le _, by rw [C0]; simp, rfl, Below.refl _ w2⟩
  case round =>
    obtain ⟨k, hk, rfl, rfl, hb⟩ := hrel
    by_cases hlt : k < nx.length
    · have r1 : Reads wr w2.heap.size 8 A os.length (I.rcs os) := by rw [HO.out]; exact RO.out.below hb (Nat.le_refl _)
      obtain ⟨b1, o1, rfl, hb1, h1⟩ := r1.rg (by have := HO.out; omega)
      have a1 := (h1 k (by have := HO.out; omega)).c1
      have ge := GET.out k hlt
      rw [ge] at a1
      unfold I.outR at a1
      simp only at a1
      clear h1 r1 ge
      have HB := Lib.hid hb
      have cle := CLE.out k
      have q1 : (0 : Int) ≤ (k : Int) := by omega
      have q2 : (k : Int) < (nx.length : Int) := by omega
      have ni := NEW.out k hlt
      cases hf : I.fresh nx od N k with
      | true =>
        obtain ⟨f1, f2⟩ := FRE.out k hf
        have F2 := Lib.hid f2
        rw [f1] at a1 ni
        clear f1 f2 hf ni hb
        generalize hc : cf k = c0 at *
        have q3 : un ≤ un + (c0 : Int) := by omega
        go_wp2_with fail
        go_roundw
        case rel => exact ⟨k + 1, by omega, by rw [F2.out]; go_num, by go_num, HB.out⟩
        case measure => simp [intOf] <;> omega
      | false =>
        have f2 := Lib.hid (OLD.out k hf)
        have fd := Lib.hid (FND.out k hf)
        have hid1 := ni.2 hf
        clear ni hf hb
        obtain ⟨id, hid⟩ : ∃ id, I.ident nx od N un k = id := ⟨_, rfl⟩
        rw [hid] at a1 hid1
        have HI := Lib.hid hid
        clear hid
        have q3 : ¬ (un ≤ id) := by omega
        go_wp2_with fail
        go_loopw [11, 70] (fun a i wi => ∃ m : Nat, m ≤ od.length ∧ a = .bool (I.fnd od id (nx.getD k default) m) ∧ i = .int .i64 m ∧ Below w2.heap.size w2 wi) (fun _ i _ => od.length - (intOf i).toNat)
        case atStart => exact ⟨0, Nat.zero_le _, rfl, rfl, HB.out⟩
        case round =>
          obtain ⟨m, hm', rfl, rfl, hbi⟩ := hrel
          by_cases hml : m < od.length
          · have r3 : Reads wr w2.heap.size 8 (some ⟨b1, o1, none⟩) os.length (I.rcs os) := by rw [HO.out]; exact RO.out.below hbi (Nat.le_refl _)
            have r4 : Reads wr w.heap.size 8 An nx.length (I.rcs nx) := HRN.out.below (hb2.out.trans (hbi.mono hb2.out.size)) (Nat.le_refl _)
            have r5 : Reads wr w.heap.size 8 Ao od.length (I.rcs od) := HRO.out.below (hb2.out.trans (hbi.mono hb2.out.size)) (Nat.le_refl _)
            obtain ⟨bn, on, rfl, hbn, h2⟩ := r4.rg (by omega)
            obtain ⟨bo, oo, rfl, hbo, h3⟩ := r5.rg (by omega)
            obtain ⟨b1', o1', he1, hb1', h1⟩ := r3.rg (by have := HO.out; omega)
            obtain ⟨rfl, rfl⟩ : b1 = b1' ∧ o1 = o1' := by simpa using he1
            have a1 := (h1 k (by have := HO.out; omega)).c1
            have ge := GET.out k hlt
            rw [ge] at a1
            unfold I.outR at a1
            simp only at a1
            rw [HI.out] at a1
            clear h1 r3 r4 r5 ge he1 hb1'
            have a2 := h2 k hlt
            have a3 := h3 m hml
            clear h2 h3
            have HBI := Lib.hid hbi
            have fs := I.fnd_succ od id (nx.getD k default) m
            have LK := Lib.hid (like_any (od.getD m default) (nx.getD k default))
            generalize I.fnd od id (nx.getD k default) m = f0 at *
            generalize hlv : I.like (od.getD m default) (nx.getD k default) = lv at *
            generalize nx.getD k default = r at *
            generalize od.getD m default = q at *
            obtain ⟨rk, ri, rp, rt, rl, rb, rr, rlb⟩ := r
            obtain ⟨qk, qi, qp, qt, ql, qb, qr, qlb⟩ := q
            obtain ⟨x0, x1, x2, x3, x4, x5, x6, x7⟩ := a2
            obtain ⟨y0, y1, y2, y3, y4, y5, y6, y7⟩ := a3
            simp only at x0 x1 x2 x3 x4 x5 x6 x7 y0 y1 y2 y3 y4 y5 y6 y7 fs
            simp only [I.Rg.val, I.Rg.cells] at LK
            have q3 : (0 : Int) ≤ (m : Int) := by omega
            have q4 : (m : Int) < (od.length : Int) := by omega
            clear hbi hlv
            cases f0 with
            | true =>
              go_wp2_with fail
              go_quiet (fail)
              go_wp2_with fail
              refine ⟨⟨m + 1, by omega, by rw [fs]; rfl, by go_num, below_drewN HBI.out _⟩, by simp [intOf]; omega⟩
            | false =>
            by_cases e : qi = id
            · have e2 : (qi == id) = true := beq_iff_eq.2 e
              rw [e2] at fs
              obtain rfl := e
              go_wp2_with fail
              go_still_tail 22, (by kernel_rfl)
              go_wp2_with fail
              refine (LK.out _).mono ?_
              rintro e' w5 ⟨rfl, b5⟩
              go_wp2_with fail
              refine ⟨⟨m + 1, by omega, by rw [fs]; simp, by go_num, (HBI.out.drew).trans (b5.mono HBI.out.size)⟩, by simp [intOf]; omega⟩
            · have e2 : (qi == id) = false := beq_eq_false_iff_ne.2 e
              rw [e2] at fs
              clear e
              go_wp2_with fail
              go_quiet (fail)
              go_wp2_with fail
              refine ⟨⟨m + 1, by omega, by rw [fs]; rfl, by go_num, below_drewN HBI.out _⟩, by simp [intOf]; omega⟩
          · obtain rfl : m = od.length := by omega
            have fdo := fd.out
            have q3 : (0 : Int) ≤ (od.length : Int) := by omega
            have q4 : ((od.length : Int) < (od.length : Int)) = False := eq_false (by omega)
            rw [HI.out] at fdo
            generalize I.fnd od id (nx.getD k default) od.length = fo at *
            subst fdo
            go_wp2_with fail
            refine ⟨⟨k + 1, by omega, by rw [f2.out], by go_num, hbi⟩, by simp [intOf]; omega⟩
    · have q1 : (0 : Int) ≤ (k : Int) := by omega
      have q2 : ((k : Int) < (nx.length : Int)) = False := eq_false (by omega)
      obtain rfl : k = nx.length := by omega
      have q3 : I.cntF nx od N nx.length = cf nx.length := by rw [HCF.out]
      go_wp2_with fail
      refine (awake_any _).mono ?_
      rintro e w5 ⟨rfl, b5⟩
      go_wp2_with fail
      go_ret
      exact ⟨ret_bool (by simp), hb2.out.trans ((hb.mono hb2.out.size).trans (b5.mono (Nat.le_trans hb2.out.size hb.size)))⟩
theorem unlikelaw_any (Ao : Option Addr) (co : Nat) (od : List I.Rg) (An : Option Addr) (cn : Nat) (nx : List I.Rg) (un : Int) (w : World) (hro : Reads w w.heap.size 8 Ao od.length (I.rcs od)) (ho : I.Ok od) (_ : ∀ r ∈ od, I.Num r) (hco : od.length ≤ co) (hrn : Reads w w.heap.size 8 An nx.length (I.rcs nx)) (hn : I.Ok nx) (_ : ∀ r ∈ nx, I.Num r) (hcn : nx.length ≤ cn) (_ : -9223372036854775808 ≤ un) (_ : un ≤ 9223372036854775807) :
    Calls Try.prog 8 #[.slice Ao od.length co, .slice An nx.length cn, .int .i64 un] w fun e w' => e = .returned (.bool true) ∧ Below w.heap.size w w' :=
  unlike_any Ao An co cn od nx un w hro hrn ho hn hco hcn
end Go.Proofs.Ytoemhphgnpedmaa
