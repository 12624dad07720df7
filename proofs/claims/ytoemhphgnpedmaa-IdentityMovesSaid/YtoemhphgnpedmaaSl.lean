/-
  The walks of layer 29: by how much a cost is greater than the numbers of its row and column. By an AI agent.
-/
import Derived.Test.YtoemhphgnpedmaaMem
namespace Go.Proofs.Ytoemhphgnpedmaa
open Go.RowKit

set_option maxRecDepth 10000 in
set_option maxHeartbeats 4000000 in
theorem slack_any (B b : Nat) (A : Option Addr) (c : Nat) (rs : List (Option Addr × Nat × List Int)) (u v : Nat → Int) (p q : Nat → Nat) (r j : Nat) (w : World) (h : C.Mx w B A rs) (hs : C.St w b u v p q) (hq : C.Sq (C.mt rs))
    (hr1 : 1 ≤ r) (hr2 : r ≤ rs.length) (hj1 : 1 ≤ j) (hj2 : j ≤ rs.length) (hu : -100000000 ≤ u r) (hu2 : u r ≤ 100000000) (hv : -100000000 ≤ v j) (hv2 : v j ≤ 100000000) :
    Calls Try.prog 46 #[.pointer (some ⟨b, 0, none⟩), .slice A rs.length c, .int .i64 r, .int .i64 j] w fun e w' => e = .returned (.int .i64 (C.cst (C.mt rs) r j - u r - v j)) ∧ ∃ n, w' = w.drewN n := by
  have hl : (C.mt rs).length = rs.length := by simp [C.mt]
  have hle : rs.length ≤ 40 := by have := hq.1; omega
  have hc := C.cst_range hq r j hr1 (by omega) hj1 (by omega)
  obtain ⟨i, rfl⟩ : ∃ i, r = i + 1 := ⟨r - 1, by omega⟩
  obtain ⟨k, rfl⟩ : ∃ k, j = k + 1 := ⟨j - 1, by omega⟩
  have hil : i < rs.length := by omega
  have hrl : rs[i].2.2.length = rs.length := by rw [← hl]; exact hq.2.1 _ (List.mem_map.2 ⟨rs[i], List.getElem_mem hil, rfl⟩)
  have hkl : k < rs[i].2.2.length := by omega
  have hx := C.cst_at rs hil hkl
  obtain ⟨b1, o1, rfl, _, h1⟩ := h.at_ (by omega)
  have x0 := h1 i hil
  obtain ⟨x1, x2⟩ := h.each rs[i] (List.getElem_mem hil)
  obtain ⟨b2, o2, hA, _, h2⟩ := C.nums_at x1 (by omega)
  have y0 := h2 k hkl
  have z1 := hs.u_ (i := i + 1) (by omega)
  have z2 := hs.v_ (i := k + 1) (by omega)
  rw [hA] at x0
  rw [← hx] at y0
  generalize C.cst (C.mt rs) (i + 1) (k + 1) = x at *
  have hrl1 : (k : Int) < (rs[i].2.2.length : Int) := by omega
  clear h1 h2 hA hx hl hq h hs x1 x2 hkl
  generalize rs[i].2.2.length = nl at *
  generalize rs[i].2.1 = rc at *
  generalize u (i + 1) = U at *
  generalize v (k + 1) = V at *
  clear hrl
  obtain ⟨hc1, hc2⟩ := hc
  unfold A.M at hc2
  have q1 : (0 : Int) ≤ (i : Int) := by omega
  have q2 : (i : Int) < (rs.length : Int) := by omega
  have q3 : (0 : Int) ≤ (k : Int) := by omega
  have q5 : ((i + 1 : Nat) : Int) < 41 := by omega
  have q6 : ((k + 1 : Nat) : Int) < 41 := by omega
  have q7 : (0 : Int) ≤ ((i + 1 : Nat) : Int) := by omega
  have q8 : (0 : Int) ≤ ((k + 1 : Nat) : Int) := by omega
  go_enter Try.func46, Try.ntmps46
  go_wp2_with fail
  go_quiet (fail)
  go_wp2
  trace_state
  go_ret
  exact ⟨rfl, nq, rfl⟩
end Go.Proofs.Ytoemhphgnpedmaa
