/-
  The statements of layer 30: overlap. By an AI agent.
-/
import Derived.Test.YtoemhphgnpedmaaLk
import Derived.Lib.MinMax
import Derived.Test.YtoemhphgnpedmaaRg
import Derived.Test.YtoemhphgnpedmaaAwk
namespace Go.Proofs.Ytoemhphgnpedmaa
open Go.RowKit

/-- Two regions have a common cell. -/
def I.over (a b : I.Rg) : Bool := decide (max a.top b.top < min a.bottom b.bottom) && decide (max a.left b.left < min a.right b.right)
set_option maxRecDepth 100000 in
set_option maxHeartbeats 16000000 in
theorem overlap_any (a b : I.Rg) (w : World) : Calls Try.prog 22 #[a.val, b.val] w fun e w' => e = .returned (.bool (I.over a b)) ∧ Below w.heap.size w w' := by
  have H : Hid (I.over a b = (decide (max a.top b.top < min a.bottom b.bottom) && decide (max a.left b.left < min a.right b.right))) := Lib.hid rfl
  have B0 := Lib.hid (((Below.refl w.heap.size w).alloc (Nat.le_refl _) (.cells a.cells.toArray 27)).alloc (by simp) (.cells b.cells.toArray 27))
  obtain ⟨ak, ai, ap, at_, al, ab, ar, alb⟩ := a
  obtain ⟨bk, bi, bp, bt, bl, bb, br, blb⟩ := b
  simp only [I.Rg.val, I.Rg.cells] at B0 ⊢
  by_cases h1 : max at_ bt < min ab bb
  · by_cases h2 : max al bl < min ar br
    · go_enter Try.func22, Try.ntmps22
      go_wp2_with fail
      go_ret
      exact ⟨ret_bool (by rw [H.out]; simp [h1, h2]), B0.out⟩
    · go_enter Try.func22, Try.ntmps22
      go_wp2_with fail
      go_ret
      exact ⟨ret_bool (by rw [H.out]; simp [h1, h2]), B0.out⟩
  · go_enter Try.func22, Try.ntmps22
    go_wp2_with fail
    go_ret
    exact ⟨ret_bool (by rw [H.out, decide_eq_false (by omega), Bool.false_and]), B0.out⟩
end Go.Proofs.Ytoemhphgnpedmaa
