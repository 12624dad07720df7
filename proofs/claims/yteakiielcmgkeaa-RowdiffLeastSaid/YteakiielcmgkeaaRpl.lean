/-
  The walks of layer 17: Replace, the reference's Replace. By an AI agent.
-/
import Derived.Test.YteakiielcmgkeaaChg
import Derived.Lib.SmallJoins
namespace Go.Proofs.Yteakiielcmgkeaa
open Go.RowKit Go.Joins

theorem trim_len (gs : List R.G) : (R.trimEnd R.bl gs).length ≤ gs.length := R.trim_length R.bl gs
/-- A change of the call's own. -/
def R.COut (c : R.Cx) (w w' : World) (e : Ending) : Prop := ∃ v, e = .returned (.agg (R.Cs.cells ⟨c, v⟩).toArray) ∧ w'.ownsRow w.heap.size 33 3 v c.gl.length (R.gcs c.gl) ∧ Below w.heap.size w w'
set_option maxRecDepth 100000 in
set_option maxHeartbeats 8000000 in
theorem replace_any (A1 A2 : Option Addr) (c1 c2 B : Nat) (row : Int) (a b : List R.G) (w : World) (ha : Reads w B 3 A1 a.length (R.gcs a)) (hb : Reads w B 3 A2 b.length (R.gcs b)) (hB : B ≤ w.heap.size) (hla : a.length ≤ 1000) (hlb : b.length ≤ 1000) (hca : a.length ≤ c1) (hcb : b.length ≤ c2) :
    Calls Try.prog 16 #[.int .i64 row, .slice A1 a.length c1, .slice A2 b.length c2] w fun e w' => R.COut ⟨3, row, 0, ((R.trimEnd R.bl a).length : Nat), 0, R.trimEnd R.bl b⟩ w w' e := by
  have b0 : Below w.heap.size w (w.alloc (.cells #[.int .i64 0, .int .i64 0, .int .i64 0, .int .i64 0, .int .i64 0, .slice none 0 0] 29)) := (Below.refl _ _).alloc (Nat.le_refl _) _
  have V0 : (w.alloc (.cells #[.int .i64 0, .int .i64 0, .int .i64 0, .int .i64 0, .int .i64 0, .slice none 0 0] 29)).heap[w.heap.size]? = some (.cells #[.int .i64 0, .int .i64 0, .int .i64 0, .int .i64 0, .int .i64 0, .slice none 0 0] 29 (0, 0)) := heap_alloc_new w _
  have T1 := Lib.hid (trim_any A1 c1 B a _ (ha.below b0 hB) (Nat.le_trans hB b0.size) hla hca)
  have la := trim_len a
  have lb := trim_len b
  have HB := Lib.hid hb
  have HV0 := Lib.hid V0
  have HB0 := Lib.hid b0
  clear ha hb V0 b0
  go_enter Try.func16, Try.ntmps16
  go_wp2_with fail
  refine T1.out.mono ?_
  rintro e w2 ⟨v1, rfl, own1, b1⟩
  obtain ⟨A3, c3, rfl, _⟩ := own_reads own1
  have HB1 := Lib.hid (HB0.out.trans (b1.mono HB0.out.size))
  have HV1 := Lib.hid ((b1.block w.heap.size (by simp)).trans HV0.out)
  have hs2 := b1.size
  simp at hs2
  clear T1 own1 b1 HV0 HB0
  have T2 := Lib.hid (trim_any A2 c2 B b w2 (HB.out.below HB1.out hB) (Nat.le_trans hB HB1.out.size) hlb hcb)
  clear HB
  go_wp2_with fail
  refine T2.out.mono ?_
  rintro e w3 ⟨v2, rfl, own2, b2⟩
  obtain ⟨A4, c4, rfl, _⟩ := own_reads own2
  have V3 := (b2.block w.heap.size (by omega)).trans HV1.out
  have k := fun i => cell_of_block V3 i
  have k0 := k 0
  have k1 := k 1
  have k2 := k 2
  have k3 := k 3
  have k4 := k 4
  have k5 := k 5
  have f0 := unfrozen_of_block V3
  simp at k0 k1 k2 k3 k4 k5
  have HB2 := Lib.hid (HB1.out.trans (b2.mono HB1.out.size))
  have OWN := Lib.hid own2
  have HV3 := Lib.hid V3
  have hs1 : w.heap.size < w2.heap.size := by omega
  clear T2 V3 own2 b2 HV1 HB1 k
  go_wp2_with fail
  have V9 := block_setCell (i := 5) (block_setCell (i := 4) (block_setCell (i := 3) (block_setCell (i := 2) (block_setCell (i := 1) (block_setCell (i := 0) HV3.out (.int .i64 3)) (.int .i64 row)) (.int .i64 0)) (.int .i64 ((R.trimEnd R.bl a).length : Nat))) (.int .i64 0)) (.slice A4 (R.trimEnd R.bl b).length c4)
  have O9 := ownsRow_setCell_below (ownsRow_setCell_below (ownsRow_setCell_below (ownsRow_setCell_below (ownsRow_setCell_below (ownsRow_setCell_below OWN.out (a := ⟨w.heap.size, 0, none⟩) hs1 (.int .i64 3)) (a := ⟨w.heap.size, 1, none⟩) hs1 (.int .i64 row)) (a := ⟨w.heap.size, 2, none⟩) hs1 (.int .i64 0)) (a := ⟨w.heap.size, 3, none⟩) hs1 (.int .i64 ((R.trimEnd R.bl a).length : Nat))) (a := ⟨w.heap.size, 4, none⟩) hs1 (.int .i64 0)) (a := ⟨w.heap.size, 5, none⟩) hs1 (.slice A4 (R.trimEnd R.bl b).length c4)
  have B9 := (((((HB2.out.setCell (p := ⟨w.heap.size, 0, none⟩) (Nat.le_refl _) (.int .i64 3)).setCell (p := ⟨w.heap.size, 1, none⟩) (Nat.le_refl _) (.int .i64 row)).setCell (p := ⟨w.heap.size, 2, none⟩) (Nat.le_refl _) (.int .i64 0)).setCell (p := ⟨w.heap.size, 3, none⟩) (Nat.le_refl _) (.int .i64 ((R.trimEnd R.bl a).length : Nat))).setCell (p := ⟨w.heap.size, 4, none⟩) (Nat.le_refl _) (.int .i64 0)).setCell (p := ⟨w.heap.size, 5, none⟩) (Nat.le_refl _) (.slice A4 (R.trimEnd R.bl b).length c4)
  generalize ((((((w3.setCell ⟨w.heap.size, 0, none⟩ (.int .i64 3)).setCell ⟨w.heap.size, 1, none⟩ (.int .i64 row)).setCell ⟨w.heap.size, 2, none⟩ (.int .i64 0)).setCell ⟨w.heap.size, 3, none⟩ (.int .i64 ((R.trimEnd R.bl a).length : Nat))).setCell ⟨w.heap.size, 4, none⟩ (.int .i64 0)).setCell ⟨w.heap.size, 5, none⟩ (.slice A4 (R.trimEnd R.bl b).length c4)) = W at *
  have g := fun i => cell_of_block V9 i
  have g0 := g 0
  have g1 := g 1
  have g2 := g 2
  have g3 := g 3
  have g4 := g 4
  have g5 := g 5
  simp at g0 g1 g2 g3 g4 g5
  exact bodyPost_ret (v := .agg #[.int .i64 3, .int .i64 row, .int .i64 0, .int .i64 ((R.trimEnd R.bl a).length : Nat), .int .i64 0, .slice A4 (R.trimEnd R.bl b).length c4]) (by simp [results, Try.results16, go_sem, g0, g1, g2, g3, g4, g5]) rfl ⟨_, rfl, own_lower O9 (Nat.le_of_lt hs1), B9⟩
set_option maxRecDepth 100000 in
set_option maxHeartbeats 8000000 in
theorem refreplace_any (A1 A2 : Option Addr) (c1 c2 B : Nat) (row : Int) (a b : List R.G) (w : World) (ha : Reads w B 3 A1 a.length (R.gcs a)) (hb : Reads w B 3 A2 b.length (R.gcs b)) (hB : B ≤ w.heap.size) (hla : a.length ≤ 1000) (hlb : b.length ≤ 1000) (hca : a.length ≤ c1) (hcb : b.length ≤ c2) :
    Calls Try.prog 17 #[.int .i64 row, .slice A1 a.length c1, .slice A2 b.length c2] w fun e w' => R.COut ⟨3, row, 0, ((R.trimEnd R.bl a).length : Nat), 0, R.trimEnd R.bl b⟩ w w' e := by
  have b0 : Below w.heap.size w (w.alloc (.cells #[.int .i64 0, .int .i64 0, .int .i64 0, .int .i64 0, .int .i64 0, .slice none 0 0] 29)) := (Below.refl _ _).alloc (Nat.le_refl _) _
  have V0 : (w.alloc (.cells #[.int .i64 0, .int .i64 0, .int .i64 0, .int .i64 0, .int .i64 0, .slice none 0 0] 29)).heap[w.heap.size]? = some (.cells #[.int .i64 0, .int .i64 0, .int .i64 0, .int .i64 0, .int .i64 0, .slice none 0 0] 29 (0, 0)) := heap_alloc_new w _
  have T1 := Lib.hid (reftrim_any A1 c1 B a _ (ha.below b0 hB) (Nat.le_trans hB b0.size) hla hca)
  have la := trim_len a
  have lb := trim_len b
  have HB := Lib.hid hb
  have HV0 := Lib.hid V0
  have HB0 := Lib.hid b0
  clear ha hb V0 b0
  go_enter Try.func17, Try.ntmps17
  go_wp2_with fail
  refine T1.out.mono ?_
  rintro e w2 ⟨v1, rfl, own1, b1⟩
  obtain ⟨A3, c3, rfl, _⟩ := own_reads own1
  have HB1 := Lib.hid (HB0.out.trans (b1.mono HB0.out.size))
  have HV1 := Lib.hid ((b1.block w.heap.size (by simp)).trans HV0.out)
  have hs2 := b1.size
  simp at hs2
  clear T1 own1 b1 HV0 HB0
  have T2 := Lib.hid (reftrim_any A2 c2 B b w2 (HB.out.below HB1.out hB) (Nat.le_trans hB HB1.out.size) hlb hcb)
  clear HB
  go_wp2_with fail
  refine T2.out.mono ?_
  rintro e w3 ⟨v2, rfl, own2, b2⟩
  obtain ⟨A4, c4, rfl, _⟩ := own_reads own2
  have V3 := (b2.block w.heap.size (by omega)).trans HV1.out
  have k := fun i => cell_of_block V3 i
  have k0 := k 0
  have k1 := k 1
  have k2 := k 2
  have k3 := k 3
  have k4 := k 4
  have k5 := k 5
  have f0 := unfrozen_of_block V3
  simp at k0 k1 k2 k3 k4 k5
  have HB2 := Lib.hid (HB1.out.trans (b2.mono HB1.out.size))
  have OWN := Lib.hid own2
  have HV3 := Lib.hid V3
  have hs1 : w.heap.size < w2.heap.size := by omega
  clear T2 V3 own2 b2 HV1 HB1 k
  go_wp2_with fail
  have V9 := block_setCell (i := 5) (block_setCell (i := 4) (block_setCell (i := 3) (block_setCell (i := 2) (block_setCell (i := 1) (block_setCell (i := 0) HV3.out (.int .i64 3)) (.int .i64 row)) (.int .i64 0)) (.int .i64 ((R.trimEnd R.bl a).length : Nat))) (.int .i64 0)) (.slice A4 (R.trimEnd R.bl b).length c4)
  have O9 := ownsRow_setCell_below (ownsRow_setCell_below (ownsRow_setCell_below (ownsRow_setCell_below (ownsRow_setCell_below (ownsRow_setCell_below OWN.out (a := ⟨w.heap.size, 0, none⟩) hs1 (.int .i64 3)) (a := ⟨w.heap.size, 1, none⟩) hs1 (.int .i64 row)) (a := ⟨w.heap.size, 2, none⟩) hs1 (.int .i64 0)) (a := ⟨w.heap.size, 3, none⟩) hs1 (.int .i64 ((R.trimEnd R.bl a).length : Nat))) (a := ⟨w.heap.size, 4, none⟩) hs1 (.int .i64 0)) (a := ⟨w.heap.size, 5, none⟩) hs1 (.slice A4 (R.trimEnd R.bl b).length c4)
  have B9 := (((((HB2.out.setCell (p := ⟨w.heap.size, 0, none⟩) (Nat.le_refl _) (.int .i64 3)).setCell (p := ⟨w.heap.size, 1, none⟩) (Nat.le_refl _) (.int .i64 row)).setCell (p := ⟨w.heap.size, 2, none⟩) (Nat.le_refl _) (.int .i64 0)).setCell (p := ⟨w.heap.size, 3, none⟩) (Nat.le_refl _) (.int .i64 ((R.trimEnd R.bl a).length : Nat))).setCell (p := ⟨w.heap.size, 4, none⟩) (Nat.le_refl _) (.int .i64 0)).setCell (p := ⟨w.heap.size, 5, none⟩) (Nat.le_refl _) (.slice A4 (R.trimEnd R.bl b).length c4)
  generalize ((((((w3.setCell ⟨w.heap.size, 0, none⟩ (.int .i64 3)).setCell ⟨w.heap.size, 1, none⟩ (.int .i64 row)).setCell ⟨w.heap.size, 2, none⟩ (.int .i64 0)).setCell ⟨w.heap.size, 3, none⟩ (.int .i64 ((R.trimEnd R.bl a).length : Nat))).setCell ⟨w.heap.size, 4, none⟩ (.int .i64 0)).setCell ⟨w.heap.size, 5, none⟩ (.slice A4 (R.trimEnd R.bl b).length c4)) = W at *
  have g := fun i => cell_of_block V9 i
  have g0 := g 0
  have g1 := g 1
  have g2 := g 2
  have g3 := g 3
  have g4 := g 4
  have g5 := g 5
  simp at g0 g1 g2 g3 g4 g5
  exact bodyPost_ret (v := .agg #[.int .i64 3, .int .i64 row, .int .i64 0, .int .i64 ((R.trimEnd R.bl a).length : Nat), .int .i64 0, .slice A4 (R.trimEnd R.bl b).length c4]) (by simp [results, Try.results17, go_sem, g0, g1, g2, g3, g4, g5]) rfl ⟨_, rfl, own_lower O9 (Nat.le_of_lt hs1), B9⟩
end Go.Proofs.Yteakiielcmgkeaa
