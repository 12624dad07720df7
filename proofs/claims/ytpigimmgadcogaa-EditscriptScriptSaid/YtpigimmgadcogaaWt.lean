/-
  The walks of layer 16: Weight; edits that came in. By an AI agent.
-/
import Derived.Deep.Strs
import Derived.Test.YtpigimmgadcogaaOpen
import Derived.Test.YtpigimmgadcogaaAp
namespace Go.Proofs.Ytpigimmgadcogaa
open Go.ChangeShapes Go.WideShapes Go.ChangeAt Go.RowKit

namespace E
/-- Edits in memory, however long. -/
structure Rd0 (w : World) (B : Nat) (A : Option Addr) (xs : List (Es Int)) : Prop where
  row : Reads w B 3 A xs.length (xs.flatMap ec)
  ins : ∀ x ∈ xs, ∃ A' c, x.sl = .slice A' x.ed.ins.length c ∧ Reads w B 1 A' x.ed.ins.length (ns x.ed.ins) ∧ x.ed.ins.length ≤ maxLen
theorem Rd0.below {w w' : World} {B B₁ : Nat} {A : Option Addr} {xs : List (Es Int)} (h : Rd0 w B A xs) (hb : Below B₁ w w') (hB : B ≤ B₁) : Rd0 w' B A xs :=
  ⟨h.row.below hb hB, fun x hx => let ⟨A', c, h1, h2, h3⟩ := h.ins x hx; ⟨A', c, h1, h2.below hb hB, h3⟩⟩
theorem Rd0.rd {w : World} {B : Nat} {A : Option Addr} {xs : List (Es Int)} (h : Rd0 w B A xs) (hl : ∀ x ∈ xs, x.ed.ins.length ≤ 1000000) : Rd w B A xs :=
  ⟨h.row, fun x hx => let ⟨A', c, h1, h2, _⟩ := h.ins x hx; ⟨A', c, h1, h2, hl x hx⟩⟩

/-- What Weight counts. -/
def rw (n : Int) : List (Ed Int) → Int
  | [] => if 1000 < n then -1 else n
  | x :: l => if x.del < 0 ∨ 1000 < x.del ∨ 1000 < x.ins.length ∨ 1000 < n then -1 else rw (n + x.del + x.ins.length) l
theorem rw_bad {n : Int} {x : Ed Int} {l : List (Ed Int)} (h : x.del < 0 ∨ 1000 < x.del ∨ 1000 < x.ins.length ∨ 1000 < n) : rw n (x :: l) = -1 := by rw [rw, if_pos h]
theorem rw_ok {n : Int} {x : Ed Int} {l : List (Ed Int)} (h : ¬ (x.del < 0 ∨ 1000 < x.del ∨ 1000 < x.ins.length ∨ 1000 < n)) : rw n (x :: l) = rw (n + x.del + x.ins.length) l := by rw [rw, if_neg h]
theorem rw_weight : ∀ (l : List (Ed Int)) (n : Int), 0 ≤ rw n l → rw n l = n + weight l ∧ ∀ x ∈ l, 0 ≤ x.del ∧ x.ins.length ≤ 1000
  | [], n, h => by
    rw [rw] at h ⊢
    split at h
    · omega
    · rename_i h1; rw [if_neg h1]; simp
  | x :: l, n, h => by
    by_cases hb : x.del < 0 ∨ 1000 < x.del ∨ 1000 < x.ins.length ∨ 1000 < n
    · rw [rw_bad hb] at h; omega
    · rw [rw_ok hb] at h ⊢
      obtain ⟨h1, h2⟩ := rw_weight l _ h
      refine ⟨by rw [h1, weight_cons]; omega, fun y hy => ?_⟩
      rcases List.mem_cons.1 hy with rfl | hy
      · omega
      · exact h2 y hy
end E

section
variable {H : Type} {enc : TypeId × Value → H} {W : World}
theorem trod_edit (n : Nat) (cs : List Value) (y : DataW H × List MemPlace) (h : DataW.trod enc Try.prog W 0 (fun _ => true) true n 37 cs = some y) (hl : cs.length = 3) :
    ∃ x : E.Es Int, cs = E.ec x ∧ ∃ A' c, x.sl = .slice A' x.ed.ins.length c ∧ Reads W W.heap.size 1 A' x.ed.ins.length (E.ns x.ed.ins) ∧ x.ed.ins.length ≤ maxLen := by
  obtain ⟨y0, y1, y2, m, _, _, h0, h1, h2⟩ := Go.Deep.trod_struct3 Try.underlying37 h
  match cs, hl with
  | [k0, k1, k2], _ =>
    have e3 : Try.prog.cellsOf 3 = 1 := by kernel_rfl
    have e22 : Try.prog.cellsOf 22 = 1 := by kernel_rfl
    simp only [e3, e22, List.drop_zero, List.drop_succ_cons, List.take_succ_cons, List.take_zero] at h0 h1 h2
    obtain ⟨x, hx, _⟩ := DataW.trod_int Try.underlying3 h0
    obtain ⟨z, hz, _⟩ := DataW.trod_int Try.underlying3 h1
    obtain ⟨A, c, xs, hs, hr, _, hm, _, _⟩ := trod_sl (α := Int) (enc' := fun s => [.int .i64 s]) (good := fun _ => True) Try.underlying22 e3 (by decide) (fun n cs y hy _ => by
      obtain ⟨s, hs, _⟩ := DataW.trod_int Try.underlying3 hy
      exact ⟨s, hs, trivial⟩) h2
    rw [flat_one] at hr
    simp only [List.cons.injEq, and_true] at hx hz hs
    subst hx hz hs
    exact ⟨⟨⟨x, z, xs⟩, .slice A xs.length c⟩, rfl, A, c, rfl, hr, hm⟩
instance : Inhabited (E.Es Int) := ⟨⟨⟨0, 0, []⟩, .slice none 0 0⟩⟩
theorem open_edits {r : Reach} {b0 : Nat} {v : Value} {d : DataW H} {ps : List MemPlace} (hval : Value.okWide Try.prog W r b0 27 v) (h : DataW.Trod enc Try.prog W 0 (fun _ => true) true 27 v d ps) :
    ∃ (A : Option Addr) (c : Nat) (xs : List (E.Es Int)), v = .slice A xs.length c ∧ E.Rd0 W W.heap.size A xs ∧ xs.length ≤ maxLen := by
  obtain ⟨A, c, xs, h0, h1, h2, h3, _, _⟩ := open_sl (α := E.Es Int) (enc' := E.ec) (good := fun x => ∃ A' c, x.sl = .slice A' x.ed.ins.length c ∧ Reads W W.heap.size 1 A' x.ed.ins.length (E.ns x.ed.ins) ∧ x.ed.ins.length ≤ maxLen) Try.underlying27 (by kernel_rfl) (by decide) trod_edit hval h
  exact ⟨A, c, xs, h0, ⟨h1, fun x hx => (h2 x hx).1⟩, h3⟩
end

set_option maxRecDepth 10000 in
set_option maxHeartbeats 8000000 in
theorem weight_any (A : Option Addr) (c B : Nat) (xs : List (E.Es Int)) (w : World) (hr : E.Rd0 w B A xs) (hl : xs.length ≤ maxLen) :
    Calls Try.prog 27 #[.slice A xs.length c] w fun e w' => e = .returned (.int .i64 (E.rw 0 (xs.map (·.ed)))) ∧ ∃ n, w' = w.drewN n := by
  have HR := Lib.hid hr
  unfold maxLen at hl
  clear hr
  go_enter Try.func27, Try.ntmps27
  go_wp2
  go_loopw [3, 4] (fun vn vi wr => ∃ (k : Nat) (n : Int), k ≤ xs.length ∧ vi = .int .i64 k ∧ vn = .int .i64 n ∧ 0 ≤ n ∧ n ≤ 3000 ∧ Hid (E.rw 0 (xs.map (·.ed)) = E.rw n ((xs.map (·.ed)).drop k)) ∧ ∃ q, wr = w.drewN q) (fun _ vi _ => xs.length - (intOf vi).toNat)
  case atStart => exact ⟨0, 0, Nat.zero_le _, rfl, rfl, by omega, by omega, Lib.hid (by rw [List.drop_zero]), 0, rfl⟩
  case round =>
    obtain ⟨k, n, hk, rfl, rfl, hn0, hn1, hn, q, rfl⟩ := hrel
    by_cases hlt : k < xs.length
    · obtain ⟨bb, off, rfl, hlo, hc⟩ := E.edD HR.out.row (by omega)
      obtain ⟨x0, x1, x2⟩ := hc k hlt
      obtain ⟨Ai, ci, hsl', -, li⟩ := HR.out.ins xs[k] (List.getElem_mem hlt)
      have hd : Hid ((xs.map (·.ed)).drop k = xs[k].ed :: (xs.map (·.ed)).drop (k + 1)) := Lib.hid (by rw [E.drop_cons (by simpa using hlt)]; simp)
      have q0 : (0 : Int) ≤ (k : Int) := by omega
      have q1 : (k : Int) < (xs.length : Int) := by omega
      clear hc
      generalize xs[k] = x at *
      obtain ⟨⟨xa, xd, xi⟩, xs'⟩ := x
      dsimp only at *
      subst hsl'
      unfold maxLen at li
      by_cases hb : xd < 0 ∨ 1000 < xd ∨ 1000 < xi.length ∨ 1000 < n
      · have HE : Hid (E.rw 0 (xs.map (·.ed)) = -1) := Lib.hid (by rw [hn.out, hd.out]; exact E.rw_bad hb)
        clear hn hd
        by_cases h1 : xd < 0
        · clear hb
          go_wp2
          go_ret
          exact ⟨ret_int HE.out.symm, q, rfl⟩
        · by_cases h2 : 1000 < xd
          · clear hb
            go_wp2
            go_ret
            exact ⟨ret_int HE.out.symm, q, rfl⟩
          · by_cases h3 : 1000 < xi.length
            · have h3' : (1000 : Int) < (xi.length : Int) := by omega
              clear hb
              go_wp2
              go_ret
              exact ⟨ret_int HE.out.symm, q, rfl⟩
            · have h4 : 1000 < n := by omega
              clear hb
              go_wp2
              go_ret
              exact ⟨ret_int HE.out.symm, q, rfl⟩
      · have h1 : ¬ xd < 0 := by omega
        have h2 : ¬ 1000 < xd := by omega
        have h3 : ¬ 1000 < xi.length := by omega
        have h4 : ¬ 1000 < n := by omega
        have hn2 : Hid (E.rw 0 (xs.map (·.ed)) = E.rw (n + xd + (xi.length : Int)) ((xs.map (·.ed)).drop (k + 1))) := Lib.hid (by rw [hn.out, hd.out]; exact E.rw_ok hb)
        have u1 : IntKind.i64.wrap (n + xd) = n + xd := by simp [IntKind.wrap, IntKind.bits, IntKind.signed]; omega
        have u2 : IntKind.i64.wrap (n + xd + (xi.length : Int)) = n + xd + (xi.length : Int) := by simp [IntKind.wrap, IntKind.bits, IntKind.signed]; omega
        clear hn hd hb
        go_wp2
        go_quiet (fail)
        go_wp2
        go_roundw
        case rel => exact ⟨k + 1, n + xd + (xi.length : Int), hlt, by go_num, rfl, by omega, by omega, hn2, q + nq, by simp⟩
        case measure => simp [intOf] <;> omega
    · obtain rfl : k = xs.length := by omega
      rw [List.drop_of_length_le (by simp)] at hn
      by_cases h4 : 1000 < n
      · have HE : Hid (E.rw 0 (xs.map (·.ed)) = -1) := Lib.hid (by rw [hn.out, E.rw, if_pos h4])
        go_wp2
        go_ret
        exact ⟨ret_int HE.out.symm, q, rfl⟩
      · have HE : Hid (E.rw 0 (xs.map (·.ed)) = n) := Lib.hid (by rw [hn.out, E.rw, if_neg h4])
        go_wp2
        go_ret
        exact ⟨ret_int HE.out.symm, q, rfl⟩
end Go.Proofs.Ytpigimmgadcogaa
