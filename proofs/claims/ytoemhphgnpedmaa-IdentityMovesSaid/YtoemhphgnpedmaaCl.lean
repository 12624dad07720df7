/-
  The walks of layer 30: the closures of Match, and matrix. By an AI agent.
-/
import Derived.StillTailTactics
import Derived.Lib.MinMax
import Derived.Test.YtoemhphgnpedmaaLk2
import Derived.Test.YtoemhphgnpedmaaRg
import Derived.Test.YtoemhphgnpedmaaOm
namespace Go.Proofs.Ytoemhphgnpedmaa
open Go.RowKit

/-- What the closures of Match stand on: the two lists, in boxes. -/
structure I.Env (w : World) (B Ba Bb : Nat) (Aa Ab : Option Addr) (ca cb : Nat) (nx od : List I.Rg) : Prop where
  a : w.cell? ⟨Ba, 0, none⟩ = some (.slice Aa nx.length ca)
  b : w.cell? ⟨Bb, 0, none⟩ = some (.slice Ab od.length cb)
  la : Ba < w.heap.size
  lb : Bb < w.heap.size
  ra : Reads w B 8 Aa nx.length (I.rcs nx)
  rb : Reads w B 8 Ab od.length (I.rcs od)
  hB : B ≤ w.heap.size
theorem I.Env.below {w w' : World} {B Ba Bb : Nat} {Aa Ab : Option Addr} {ca cb : Nat} {nx od : List I.Rg} (h : I.Env w B Ba Bb Aa Ab ca cb nx od) (hb : Below w.heap.size w w') : I.Env w' B Ba Bb Aa Ab ca cb nx od :=
  ⟨(hb.cell (p := ⟨Ba, 0, none⟩) h.la).trans h.a, (hb.cell (p := ⟨Bb, 0, none⟩) h.lb).trans h.b, Nat.lt_of_lt_of_le h.la hb.size, Nat.lt_of_lt_of_le h.lb hb.size, h.ra.below hb h.hB, h.rb.below hb h.hB, Nat.le_trans h.hB hb.size⟩

set_option maxRecDepth 100000 in
set_option maxHeartbeats 8000000 in
theorem like27_any (B Ba Bb : Nat) (Aa Ab : Option Addr) (ca cb : Nat) (nx od : List I.Rg) (w : World) (i k : Nat) (h : I.Env w B Ba Bb Aa Ab ca cb nx od) (hna : nx.length ≤ 1000) (hnb : od.length ≤ 1000) (hi : i ≤ 1000) (hk : k ≤ 1000) :
    Calls Try.prog 27 #[.int .i64 i, .int .i64 k, .pointer (some ⟨Ba, 0, none⟩), .pointer (some ⟨Bb, 0, none⟩)] w fun e w' => e = .returned (.int .i64 (I.lk nx od i k)) ∧ Below w.heap.size w w' := by
  have xa := h.a
  have xb := h.b
  by_cases h1 : i < nx.length
  · by_cases h2 : k < od.length
    · obtain ⟨b1, o1, rfl, hb1, hc1⟩ := h.ra.rg (by omega)
      obtain ⟨b2, o2, rfl, hb2, hc2⟩ := h.rb.rg (by omega)
      obtain ⟨a0, a1, a2, a3, a4, a5, a6, a7⟩ := hc1 i h1
      obtain ⟨d0, d1, d2, d3, d4, d5, d6, d7⟩ := hc2 k h2
      have HV : Hid (I.lk nx od i k = I.like (nx.getD i default) (od.getD k default)) := Lib.hid (by unfold I.lk; rw [if_pos ⟨h1, h2⟩])
      have LK := Lib.hid (fun w' => like_any (nx.getD i default) (od.getD k default) w')
      rw [HV.out]
      clear HV hc1 hc2 h
      generalize nx.getD i default = g1 at *
      generalize od.getD k default = g2 at *
      obtain ⟨v, hv⟩ : ∃ v, I.like g1 g2 = v := ⟨_, rfl⟩
      rw [hv] at LK ⊢
      clear hv
      simp only [I.Rg.val, I.Rg.cells] at LK
      have q1 : (0 : Int) ≤ (i : Int) := by omega
      have q2 : (i : Int) < (nx.length : Int) := by omega
      have q3 : (0 : Int) ≤ (k : Int) := by omega
      have q4 : (k : Int) < (od.length : Int) := by omega
      go_enter Try.func27, Try.ntmps27
      go_wp2_with fail
      go_still_tail 8, (by kernel_rfl)
      go_wp2_with fail
      refine (LK.out _).mono ?_
      rintro e' w1 ⟨rfl, b1⟩
      go_wp2_with fail
      go_ret
      exact ⟨rfl, (below_drewN (Below.refl _ _) _).trans b1⟩
    · have HV : Hid (I.lk nx od i k = 0) := Lib.hid (by unfold I.lk; rw [if_neg (by omega)])
      rw [HV.out]
      clear HV h
      go_enter Try.func27, Try.ntmps27
      go_wp2_with fail
      go_ret
      exact ⟨rfl, Below.refl _ _⟩
  · have HV : Hid (I.lk nx od i k = 0) := Lib.hid (by unfold I.lk; rw [if_neg (by omega)])
    rw [HV.out]
    clear HV h
    go_enter Try.func27, Try.ntmps27
    go_wp2_with fail
    go_ret
    exact ⟨rfl, Below.refl _ _⟩
set_option maxHeartbeats 8000000 in
theorem cost30_any (B Ba Bb Bl : Nat) (Aa Ab : Option Addr) (ca cb : Nat) (nx od : List I.Rg) (w : World) (i k : Nat) (h : I.Env w B Ba Bb Aa Ab ca cb nx od) (hl : w.cell? ⟨Bl, 0, none⟩ = some (.func (.func 27) #[] #[.pointer (some ⟨Ba, 0, none⟩), .pointer (some ⟨Bb, 0, none⟩)])) (hna : nx.length ≤ 1000) (hnb : od.length ≤ 1000) (hi : i ≤ 1000) (hk : k ≤ 1000) :
    Calls Try.prog 30 #[.int .i64 i, .int .i64 k, .pointer (some ⟨Bl, 0, none⟩)] w fun e w' => e = .returned (.int .i64 (I.cost nx od i k)) ∧ Below w.heap.size w w' := by
  have LK := Lib.hid (like27_any B Ba Bb Aa Ab ca cb nx od w i k h hna hnb hi hk)
  have hbd := I.lk_bd nx od i k
  obtain ⟨v, hv⟩ : ∃ v, I.lk nx od i k = v := ⟨_, rfl⟩
  rw [hv] at LK hbd
  have HC : Hid (I.cost nx od i k = if 300 ≤ v then 1000 - v else 1000) := Lib.hid (by unfold I.cost; rw [hv])
  clear h hv
  by_cases h3 : 300 ≤ v
  · have h4 := HC.out
    rw [if_pos h3] at h4
    rw [h4]
    clear HC h4
    go_enter Try.func30, Try.ntmps30
    go_wp2_with fail
    refine LK.out.mono ?_
    rintro e' w1 ⟨rfl, b1⟩
    go_wp2_with fail
    go_ret
    exact ⟨rfl, b1⟩
  · have h4 := HC.out
    rw [if_neg h3] at h4
    rw [h4]
    clear HC h4
    go_enter Try.func30, Try.ntmps30
    go_wp2_with fail
    refine LK.out.mono ?_
    rintro e' w1 ⟨rfl, b1⟩
    go_wp2_with fail
    go_ret
    exact ⟨rfl, b1⟩
end Go.Proofs.Ytoemhphgnpedmaa
