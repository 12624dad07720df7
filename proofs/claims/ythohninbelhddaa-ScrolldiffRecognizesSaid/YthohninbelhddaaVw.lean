/-
  The walks of layer 18: views, which scrolls are possible, gains. By an AI agent.
-/
import Derived.Test.YthohninbelhddaaGl
namespace Go.Proofs.Ythohninbelhddaa
open Go.RowKit

attribute [local go_sem] guard44

namespace C
/-- A view: its numbers, and its rows (address, capacity, glyphs). -/
structure VR where
  wd : Int
  ht : Int
  A : Option Addr
  c : Nat
  rs : List (Option Addr × Nat × List Gl)
  row : Int
  col : Int
  vis : Bool
def slv (r : Option Addr × Nat × List Gl) : Value := .slice r.1 r.2.2.length r.2.1
def VR.cells (v : VR) : List Value := [.int .i64 v.wd, .int .i64 v.ht, .slice v.A v.rs.length v.c, .int .i64 v.row, .int .i64 v.col, .bool v.vis]
def VR.val (v : VR) : Value := .agg #[.int .i64 v.wd, .int .i64 v.ht, .slice v.A v.rs.length v.c, .int .i64 v.row, .int .i64 v.col, .bool v.vis]
def VR.gl (v : VR) : List (List Gl) := v.rs.map (·.2.2)
structure Rv (w : World) (B : Nat) (A : Option Addr) (rs : List (Option Addr × Nat × List Gl)) : Prop where
  row : Reads w B 1 A rs.length (rs.map slv)
  each : ∀ r ∈ rs, Reads w B 3 r.1 r.2.2.length (r.2.2.flatMap Gl.cells) ∧ r.2.2.length ≤ maxLen ∧ ∀ g ∈ r.2.2, g.t.size ≤ maxLen
  len : rs.length ≤ maxLen
theorem Rv.below {w w' : World} {B B' : Nat} {A : Option Addr} {rs : List (Option Addr × Nat × List Gl)} (h : Rv w B A rs) (hb : Below B' w w') (hB : B ≤ B') : Rv w' B A rs :=
  ⟨h.row.below hb hB, fun r hr => let ⟨h1, h2⟩ := h.each r hr; ⟨h1.below hb hB, h2⟩, h.len⟩
theorem Rv.more {w : World} {B B' : Nat} {A : Option Addr} {rs : List (Option Addr × Nat × List Gl)} (h : Rv w B A rs) (hB : B ≤ B') : Rv w B' A rs :=
  ⟨h.row.more hB, fun r hr => let ⟨h1, h2⟩ := h.each r hr; ⟨h1.more hB, h2⟩, h.len⟩
theorem Rv.drewN {w : World} {B : Nat} {A : Option Addr} {rs : List (Option Addr × Nat × List Gl)} (h : Rv w B A rs) (n : Nat) : Rv (w.drewN n) B A rs := h.below (below_drewN (Below.refl _ _) n) (Nat.le_refl _)
theorem Rv.at_ {w : World} {B : Nat} {A : Option Addr} {rs : List (Option Addr × Nat × List Gl)} (h : Rv w B A rs) (hn : 0 < rs.length) :
    ∃ b off, A = some ⟨b, off, none⟩ ∧ b < B ∧ ∀ k (hk : k < rs.length), w.cell? ⟨b, off + k, none⟩ = some (.slice rs[k].1 rs[k].2.2.length rs[k].2.1) := by
  obtain ⟨b, off, hA, hb, hc⟩ := h.row.flat hn (by decide)
  exact ⟨b, off, hA, hb, fun k hk => hc k _ (by simp [hk, slv])⟩
/-- Whether two views match. -/
def mt (ha hb : Int) (na nb : Nat) : Bool := decide (ha = hb ∧ (na : Int) = ha ∧ (nb : Int) = hb)
theorem gl_get (rs : List (Option Addr × Nat × List Gl)) {k : Nat} (h : k < rs.length) : (rs.map (·.2.2)).getD k [] = rs[k].2.2 := by simp [List.getD, h]
end C

set_option maxHeartbeats 2000000 in
theorem match_any (a b : C.VR) (w : World) : Calls Try.prog 24 #[a.val, b.val] w fun e w' => e = .returned (.bool (C.mt a.ht b.ht a.rs.length b.rs.length)) ∧ Below w.heap.size w w' := by
  obtain ⟨aw, ah, aA, ac, ars, ar, aco, av⟩ := a
  obtain ⟨bw, bh, bA, bc, brs, br, bco, bv⟩ := b
  have hb0 : Below w.heap.size w ((w.alloc (.cells #[.int .i64 aw, .int .i64 ah, .slice aA ars.length ac, .int .i64 ar, .int .i64 aco, .bool av] 24)).alloc (.cells #[.int .i64 bw, .int .i64 bh, .slice bA brs.length bc, .int .i64 br, .int .i64 bco, .bool bv] 24)) := ((Below.refl _ w).alloc (Nat.le_refl _) _).alloc (by simp) _
  have HF : Hid (∀ r, C.mt ah bh ars.length brs.length = r → r = C.mt ah bh ars.length brs.length) := Lib.hid (fun r h => h.symm)
  dsimp only [C.VR.val]
  by_cases h1 : ah = bh
  · have g1 : (ah == bh) = true := beq_iff_eq.2 h1
    by_cases h2 : (ars.length : Int) = ah
    · have g2 : ((ars.length : Int) == ah) = true := beq_iff_eq.2 h2
      by_cases h3 : (brs.length : Int) = bh
      · have g3 : ((brs.length : Int) == bh) = true := beq_iff_eq.2 h3
        have HE : Hid (C.mt ah bh ars.length brs.length = true) := Lib.hid (decide_eq_true ⟨h1, h2, h3⟩)
        clear h1 h2 h3
        go_enter Try.func24, Try.ntmps24
        go_wp2
        go_ret
        exact ⟨ret_bool HE.out.symm, hb0⟩
      · have g3 : ((brs.length : Int) == bh) = false := beq_eq_false_iff_ne.2 h3
        have HE : Hid (C.mt ah bh ars.length brs.length = false) := Lib.hid (decide_eq_false (fun h => h3 h.2.2))
        clear h1 h2 h3
        go_enter Try.func24, Try.ntmps24
        go_wp2
        go_ret
        exact ⟨ret_bool HE.out.symm, hb0⟩
    · have g2 : ((ars.length : Int) == ah) = false := beq_eq_false_iff_ne.2 h2
      have HE : Hid (C.mt ah bh ars.length brs.length = false) := Lib.hid (decide_eq_false (fun h => h2 h.2.1))
      clear h1 h2
      go_enter Try.func24, Try.ntmps24
      go_wp2
      go_ret
      exact ⟨ret_bool HE.out.symm, hb0⟩
  · have g1 : (ah == bh) = false := beq_eq_false_iff_ne.2 h1
    have HE : Hid (C.mt ah bh ars.length brs.length = false) := Lib.hid (decide_eq_false (fun h => h1 h.1))
    clear h1
    go_enter Try.func24, Try.ntmps24
    go_wp2
    go_ret
    exact ⟨ret_bool HE.out.symm, hb0⟩

set_option maxHeartbeats 2000000 in
theorem possible_any (n : Nat) (t e k : Int) (w : World) (hn : n ≤ maxLen) : Calls Try.prog 28 #[.int .i64 n, .int .i64 t, .int .i64 e, .int .i64 k] w fun e' w' => e' = .returned (.bool (V.possB n t e k)) ∧ w = w' := by
  unfold maxLen at hn
  by_cases h1 : 0 ≤ t
  · by_cases h2 : t < e
    · by_cases h3 : e ≤ (n : Int)
      · by_cases h4 : k ≠ 0
        · by_cases h5 : k < e - t
          · by_cases h6 : t - e < k
            · have h4p : (k != 0) = true := bne_iff_ne.2 h4; have HE : Hid (V.possB n t e k = true) := Lib.hid (decide_eq_true ⟨h1, h2, h3, h4, h5, h6⟩)
              have u1 : IntKind.i64.wrap (e - t) = e - t := by simp [IntKind.wrap, IntKind.bits, IntKind.signed]; omega
              have u2 : IntKind.i64.wrap (t - e) = t - e := by simp [IntKind.wrap, IntKind.bits, IntKind.signed]; omega
              go_enter Try.func28, Try.ntmps28
              go_wp2
              go_ret
              exact ⟨ret_bool HE.out.symm, rfl⟩
            · have HE : Hid (V.possB n t e k = false) := Lib.hid (decide_eq_false (fun h => h6 (h.2.2.2.2.2)))
              have u1 : IntKind.i64.wrap (e - t) = e - t := by simp [IntKind.wrap, IntKind.bits, IntKind.signed]; omega
              have u2 : IntKind.i64.wrap (t - e) = t - e := by simp [IntKind.wrap, IntKind.bits, IntKind.signed]; omega
              go_enter Try.func28, Try.ntmps28
              go_wp2
              go_ret
              exact ⟨ret_bool HE.out.symm, rfl⟩
          · have HE : Hid (V.possB n t e k = false) := Lib.hid (decide_eq_false (fun h => h5 (h.2.2.2.2.1)))
            have u1 : IntKind.i64.wrap (e - t) = e - t := by simp [IntKind.wrap, IntKind.bits, IntKind.signed]; omega
            have u2 : IntKind.i64.wrap (t - e) = t - e := by simp [IntKind.wrap, IntKind.bits, IntKind.signed]; omega
            go_enter Try.func28, Try.ntmps28
            go_wp2
            go_ret
            exact ⟨ret_bool HE.out.symm, rfl⟩
        · have HE : Hid (V.possB n t e k = false) := Lib.hid (decide_eq_false (fun h => h4 (h.2.2.2.1)))
          have h4' : k = 0 := by omega
          go_enter Try.func28, Try.ntmps28
          go_wp2
          go_ret
          exact ⟨ret_bool HE.out.symm, rfl⟩
      · have HE : Hid (V.possB n t e k = false) := Lib.hid (decide_eq_false (fun h => h3 (h.2.2.1)))
        go_enter Try.func28, Try.ntmps28
        go_wp2
        go_ret
        exact ⟨ret_bool HE.out.symm, rfl⟩
    · have HE : Hid (V.possB n t e k = false) := Lib.hid (decide_eq_false (fun h => h2 (h.2.1)))
      go_enter Try.func28, Try.ntmps28
      go_wp2
      go_ret
      exact ⟨ret_bool HE.out.symm, rfl⟩
  · have HE : Hid (V.possB n t e k = false) := Lib.hid (decide_eq_false (fun h => h1 (h.1)))
    go_enter Try.func28, Try.ntmps28
    go_wp2
    go_ret
    exact ⟨ret_bool HE.out.symm, rfl⟩

set_option maxHeartbeats 2000000 in
theorem refposs_any (n : Nat) (t e k : Int) (w : World) (hn : n ≤ maxLen) : Calls Try.prog 17 #[.int .i64 n, .int .i64 t, .int .i64 e, .int .i64 k] w fun e' w' => e' = .returned (.bool (V.possB n t e k)) ∧ w = w' := by
  unfold maxLen at hn
  by_cases h1 : 0 ≤ t
  · by_cases h2 : t < e
    · by_cases h3 : e ≤ (n : Int)
      · by_cases h4 : k ≠ 0
        · by_cases h5 : k < e - t
          · by_cases h6 : t - e < k
            · have h4p : (k != 0) = true := bne_iff_ne.2 h4; have HE : Hid (V.possB n t e k = true) := Lib.hid (decide_eq_true ⟨h1, h2, h3, h4, h5, h6⟩)
              have u1 : IntKind.i64.wrap (e - t) = e - t := by simp [IntKind.wrap, IntKind.bits, IntKind.signed]; omega
              have u2 : IntKind.i64.wrap (t - e) = t - e := by simp [IntKind.wrap, IntKind.bits, IntKind.signed]; omega
              go_enter Try.func17, Try.ntmps17
              go_wp2
              go_ret
              exact ⟨ret_bool HE.out.symm, rfl⟩
            · have HE : Hid (V.possB n t e k = false) := Lib.hid (decide_eq_false (fun h => h6 (h.2.2.2.2.2)))
              have u1 : IntKind.i64.wrap (e - t) = e - t := by simp [IntKind.wrap, IntKind.bits, IntKind.signed]; omega
              have u2 : IntKind.i64.wrap (t - e) = t - e := by simp [IntKind.wrap, IntKind.bits, IntKind.signed]; omega
              go_enter Try.func17, Try.ntmps17
              go_wp2
              go_ret
              exact ⟨ret_bool HE.out.symm, rfl⟩
          · have HE : Hid (V.possB n t e k = false) := Lib.hid (decide_eq_false (fun h => h5 (h.2.2.2.2.1)))
            have u1 : IntKind.i64.wrap (e - t) = e - t := by simp [IntKind.wrap, IntKind.bits, IntKind.signed]; omega
            have u2 : IntKind.i64.wrap (t - e) = t - e := by simp [IntKind.wrap, IntKind.bits, IntKind.signed]; omega
            go_enter Try.func17, Try.ntmps17
            go_wp2
            go_ret
            exact ⟨ret_bool HE.out.symm, rfl⟩
        · have HE : Hid (V.possB n t e k = false) := Lib.hid (decide_eq_false (fun h => h4 (h.2.2.2.1)))
          have h4' : k = 0 := by omega
          go_enter Try.func17, Try.ntmps17
          go_wp2
          go_ret
          exact ⟨ret_bool HE.out.symm, rfl⟩
      · have HE : Hid (V.possB n t e k = false) := Lib.hid (decide_eq_false (fun h => h3 (h.2.2.1)))
        go_enter Try.func17, Try.ntmps17
        go_wp2
        go_ret
        exact ⟨ret_bool HE.out.symm, rfl⟩
    · have HE : Hid (V.possB n t e k = false) := Lib.hid (decide_eq_false (fun h => h2 (h.2.1)))
      go_enter Try.func17, Try.ntmps17
      go_wp2
      go_ret
      exact ⟨ret_bool HE.out.symm, rfl⟩
  · have HE : Hid (V.possB n t e k = false) := Lib.hid (decide_eq_false (fun h => h1 (h.1)))
    go_enter Try.func17, Try.ntmps17
    go_wp2
    go_ret
    exact ⟨ret_bool HE.out.symm, rfl⟩
end Go.Proofs.Ythohninbelhddaa
