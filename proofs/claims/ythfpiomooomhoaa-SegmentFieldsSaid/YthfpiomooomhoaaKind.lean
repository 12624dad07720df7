/-
  The walks of layer 22: the kind of a glyph. By an AI agent.
-/
import Derived.Test.YthfpiomooomhoaaRows
import Derived.Test.YthfpiomooomhoaaPlain
import Derived.Test.YthfpiomooomhoaaAppend
namespace Go.Proofs.Ythfpiomooomhoaa
open Go.RowKit

/-- A glyph's cells, and a glyph by value. -/
def S.G.cells (g : S.G) : List Value := [.string g.t, .bool g.wd, .int .i64 g.st]
def S.G.val (g : S.G) : Value := .agg #[.string g.t, .bool g.wd, .int .i64 g.st]

set_option maxHeartbeats 4000000 in
set_option maxRecDepth 10000 in
theorem kind_any (t : ByteArray) (wd : Bool) (st : Int) (w : World) (ht : t.size ≤ maxLen) :
    Calls Try.prog 30 #[.agg #[.string t, .bool wd, .int .i64 st]] w fun e w' => e = .returned (.int .i64 (S.kind t)) ∧ Below w.heap.size w w' := by
  unfold maxLen at ht
  have hb : Below w.heap.size w (w.alloc (.cells #[.string t, .bool wd, .int .i64 st] 32)) := (Below.refl _ _).alloc (Nat.le_refl _) _
  have HB := Lib.hid hb
  clear hb
  rcases S.kc t with ⟨h, h0, hk⟩ | ⟨h, h0, h1, hs, hk⟩ | ⟨h, h0, h1, hs, hc, hk⟩ | ⟨h, h0, h1, hs, hc, hk⟩ | ⟨h, h0, h1, hs, hc, hd, hk⟩ | ⟨h, h0, h1, hs, hc, hd, hk⟩ | ⟨h, h0, h1, hs, hc, hd, hk⟩ | ⟨h, h0, h1, hs, hd, hk⟩ | ⟨h, h0, h1, hs, hc, hd, hk⟩ | ⟨h, h0, h1, hs, hc, hd, hk⟩ | ⟨h, h0, h1, hs, hc, hd, hk⟩ | ⟨h, h0, h1, hs, hc, hd, hk⟩
  · have HK := Lib.hid hk
    clear hk
    go_enter Try.func30, Try.ntmps30
    go_wp2
    go_ret
    exact ⟨ret_int (by rw [HK.out]; rfl), HB.out⟩
  · have HK := Lib.hid hk
    clear hk
    go_enter Try.func30, Try.ntmps30
    go_wp2
    go_ret
    exact ⟨ret_int (by rw [HK.out]; rfl), HB.out⟩
  all_goals
    have HK := Lib.hid hk
    clear hk
    first | have b1 : decide ((128 : Int) ≤ (t[0].toNat : Int)) = true := decide_eq_true (by omega) | have b1 : decide ((128 : Int) ≤ (t[0].toNat : Int)) = false := decide_eq_false (by omega)
    first | have b2 : ((t[0].toNat : Int) == 95) = true := beq_iff_eq.2 (by omega) | have b2 : ((t[0].toNat : Int) == 95) = false := beq_eq_false_iff_ne.2 (by omega)
    first | have b3 : decide ((48 : Int) ≤ (t[0].toNat : Int)) = true := decide_eq_true (by omega) | have b3 : decide ((48 : Int) ≤ (t[0].toNat : Int)) = false := decide_eq_false (by omega)
    first | have b4 : decide ((t[0].toNat : Int) ≤ 57) = true := decide_eq_true (by omega) | have b4 : decide ((t[0].toNat : Int) ≤ 57) = false := decide_eq_false (by omega)
    first | have b5 : decide ((65 : Int) ≤ (t[0].toNat : Int)) = true := decide_eq_true (by omega) | have b5 : decide ((65 : Int) ≤ (t[0].toNat : Int)) = false := decide_eq_false (by omega)
    first | have b6 : decide ((t[0].toNat : Int) ≤ 90) = true := decide_eq_true (by omega) | have b6 : decide ((t[0].toNat : Int) ≤ 90) = false := decide_eq_false (by omega)
    first | have b7 : decide ((97 : Int) ≤ (t[0].toNat : Int)) = true := decide_eq_true (by omega) | have b7 : decide ((97 : Int) ≤ (t[0].toNat : Int)) = false := decide_eq_false (by omega)
    first | have b8 : decide ((t[0].toNat : Int) ≤ 122) = true := decide_eq_true (by omega) | have b8 : decide ((t[0].toNat : Int) ≤ 122) = false := decide_eq_false (by omega)
    clear ht
    go_enter Try.func30, Try.ntmps30
    go_wp2
    go_ret
    exact ⟨ret_int (by rw [HK.out]; rfl), HB.out⟩

set_option maxHeartbeats 4000000 in
set_option maxRecDepth 10000 in
theorem refkind_any (t : ByteArray) (wd : Bool) (st : Int) (w : World) (ht : t.size ≤ maxLen) :
    Calls Try.prog 33 #[.agg #[.string t, .bool wd, .int .i64 st]] w fun e w' => e = .returned (.int .i64 (S.kind t)) ∧ Below w.heap.size w w' := by
  unfold maxLen at ht
  have hb : Below w.heap.size w (w.alloc (.cells #[.string t, .bool wd, .int .i64 st] 32)) := (Below.refl _ _).alloc (Nat.le_refl _) _
  have HB := Lib.hid hb
  clear hb
  rcases S.kc t with ⟨h, h0, hk⟩ | ⟨h, h0, h1, hs, hk⟩ | ⟨h, h0, h1, hs, hc, hk⟩ | ⟨h, h0, h1, hs, hc, hk⟩ | ⟨h, h0, h1, hs, hc, hd, hk⟩ | ⟨h, h0, h1, hs, hc, hd, hk⟩ | ⟨h, h0, h1, hs, hc, hd, hk⟩ | ⟨h, h0, h1, hs, hd, hk⟩ | ⟨h, h0, h1, hs, hc, hd, hk⟩ | ⟨h, h0, h1, hs, hc, hd, hk⟩ | ⟨h, h0, h1, hs, hc, hd, hk⟩ | ⟨h, h0, h1, hs, hc, hd, hk⟩
  · have HK := Lib.hid hk
    clear hk
    go_enter Try.func33, Try.ntmps33
    go_wp2
    go_ret
    exact ⟨ret_int (by rw [HK.out]; rfl), HB.out⟩
  · have HK := Lib.hid hk
    clear hk
    go_enter Try.func33, Try.ntmps33
    go_wp2
    go_ret
    exact ⟨ret_int (by rw [HK.out]; rfl), HB.out⟩
  all_goals
    have HK := Lib.hid hk
    clear hk
    first | have b1 : decide ((128 : Int) ≤ (t[0].toNat : Int)) = true := decide_eq_true (by omega) | have b1 : decide ((128 : Int) ≤ (t[0].toNat : Int)) = false := decide_eq_false (by omega)
    first | have b2 : ((t[0].toNat : Int) == 95) = true := beq_iff_eq.2 (by omega) | have b2 : ((t[0].toNat : Int) == 95) = false := beq_eq_false_iff_ne.2 (by omega)
    first | have b3 : decide ((48 : Int) ≤ (t[0].toNat : Int)) = true := decide_eq_true (by omega) | have b3 : decide ((48 : Int) ≤ (t[0].toNat : Int)) = false := decide_eq_false (by omega)
    first | have b4 : decide ((t[0].toNat : Int) ≤ 57) = true := decide_eq_true (by omega) | have b4 : decide ((t[0].toNat : Int) ≤ 57) = false := decide_eq_false (by omega)
    first | have b5 : decide ((65 : Int) ≤ (t[0].toNat : Int)) = true := decide_eq_true (by omega) | have b5 : decide ((65 : Int) ≤ (t[0].toNat : Int)) = false := decide_eq_false (by omega)
    first | have b6 : decide ((t[0].toNat : Int) ≤ 90) = true := decide_eq_true (by omega) | have b6 : decide ((t[0].toNat : Int) ≤ 90) = false := decide_eq_false (by omega)
    first | have b7 : decide ((97 : Int) ≤ (t[0].toNat : Int)) = true := decide_eq_true (by omega) | have b7 : decide ((97 : Int) ≤ (t[0].toNat : Int)) = false := decide_eq_false (by omega)
    first | have b8 : decide ((t[0].toNat : Int) ≤ 122) = true := decide_eq_true (by omega) | have b8 : decide ((t[0].toNat : Int) ≤ 122) = false := decide_eq_false (by omega)
    clear ht
    go_enter Try.func33, Try.ntmps33
    go_wp2
    go_ret
    exact ⟨ret_int (by rw [HK.out]; rfl), HB.out⟩
end Go.Proofs.Ythfpiomooomhoaa
