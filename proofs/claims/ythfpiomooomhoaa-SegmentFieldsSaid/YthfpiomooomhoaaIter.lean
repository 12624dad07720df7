/-
  The walks of layer 22: the iterator over the runs of a row. By an AI agent.
-/
import Derived.RangeFuncNested
import Derived.RangeFuncBound
import Derived.RangeFuncCalls
import Derived.RangeFuncLeaves
import Derived.Shelf.Abstract
import Derived.Shelf.RegionOpen
import Derived.WalkKit
import Derived.OwnWalkIn
import Derived.TacticsInMore
import Derived.LoopNIn
import Derived.LoopIn
import Derived.Maps.AppendAt
import Derived.Test.YthfpiomooomhoaaClos
namespace Go.Proofs.Ythfpiomooomhoaa
open Go.RowKit Go.Shelf

attribute [local go_sem] Oper.semAt_some

/-- A span by value. -/
def S.sv {n : Nat} (x : S.Sp n) : Array Value := #[.agg #[.int .i64 x.1.1, .int .i64 x.1.2]]

theorem below_grown {W W' : World} (h : Below W.heap.size W W') : W.grownBy W' none := ⟨h.os, h.tape, h.output, h.size, fun k hk _ => h.block k hk⟩

set_option maxRecDepth 100000 in
set_option maxHeartbeats 4000000 in
/-- spans' closure, for every loop body that keeps G. -/
theorem spans1_29 (n : Nat) (hn : 1 ≤ n) (l Bl Bt Bx : Nat) (A : Option Addr) (c N : Nat) (hN : N ≤ 2 ^ 62) (tg : Nat → Bool) (G : World → Prop)
    (hG1 : ∀ W, G W → Boxed W Bl 22 (.slice A N c) ∧ Boxed W Bt 46 (.func (.func 29) #[] #[.pointer (some ⟨Bx, 0, none⟩)]))
    (hG2 : ∀ W W', Below W.heap.size W W' → G W → G W')
    (hTg : ∀ (i : Nat) W, G W → 1 ≤ i → i < N → Calls Try.prog 29 #[.int .i64 i, .pointer (some ⟨Bx, 0, none⟩)] W fun e W' => e = .returned (.bool (tg i)) ∧ Below W.heap.size W W')
    (J Jx : List (S.Sp N) → World → Prop) (hJ : ∀ s W W', J s W → W.grownBy W' none → J s W')
    (hY : ∀ pre x W, J pre W → pre.length < (S.spans N tg 0).length → YieldAt Fence.wide (n - 1) Try.prog l (S.sv x) W fun e W' =>
      (e = .returned (.bool true) ∧ J (pre ++ [x]) W' ∧ (G W → G W')) ∨ (e = .returned (.bool false) ∧ Jx (pre ++ [x]) W'))
    (W : World) (hGW : G W) (h0 : J [] W) :
    CallsIn Fence.wide n Try.prog 40 #[.func (.yield l) #[] #[], .pointer (some ⟨Bl, 0, none⟩), .pointer (some ⟨Bt, 0, none⟩)] W fun e W' => (∃ v, e = .returned v) ∧
      ((∃ ys, ys = S.spans N tg 0 ∧ J ys W') ∨ (∃ pre, pre <+: S.spans N tg 0 ∧ Jx pre W')) := by
  refine callsIn_of_wp Try.func40 rfl trivial ?_ rfl
  simp only [Try.ntmps40, List.size_toArray, List.length_cons, List.length_nil, Nat.reduceAdd, Nat.reduceSub, Array.replicate_succ, Array.replicate_zero, List.push_toArray, List.append_toArray, List.nil_append, List.cons_append]
  gi_wp2
  gi_loopw [4] (fun p wr => ∃ (pre : List (S.Sp N)) (k : Nat), p = .int .i64 k ∧ k ≤ N ∧ Hid (S.spans N tg 0 = pre ++ S.spans N tg k) ∧ J pre wr ∧ G wr)
    (fun p _ => N - (intOf p).toNat)
  case atStart =>
    exact ⟨[], 0, rfl, Nat.zero_le _, Lib.hid rfl, h0, hGW⟩
  case round =>
    obtain ⟨pre, k, rfl, hk, hx, hJs, hGs⟩ := hrel
    have c1 := (hG1 _ hGs).1.cell
    by_cases hlt : k < N
    · gi_wp2
      gi_loopw [5] (fun p wr => ∃ (to : Nat), p = .int .i64 to ∧ k + 1 ≤ to ∧ to ≤ N ∧ Hid (S.runEnd N tg (k + 1) = S.runEnd N tg to) ∧ J pre wr ∧ G wr)
        (fun p _ => N - (intOf p).toNat)
      case atStart => exact ⟨k + 1, by go_num, Nat.le_refl _, hlt, Lib.hid rfl, hJs, hGs⟩
      case round =>
        obtain ⟨to, rfl, h1, h2, hre, hJ1, hG⟩ := hrel
        have d1 := (hG1 _ hG).1.cell
        have d2 := (hG1 _ hG).2.cell
        by_cases hto : to < N
        · have hT := hTg to _ hG (by omega) hto
          have hfin : tg to = false → S.runEnd N tg to = to := S.runEnd_miss
          have hcon : tg to = true → S.runEnd N tg to = S.runEnd N tg (to + 1) := S.runEnd_hit hto
          obtain ⟨b, hb⟩ : ∃ b, b = tg to := ⟨_, rfl⟩
          rw [← hb] at hT hfin hcon
          clear hb
          cases b with
          | true =>
            clear hfin
            gi_wp2_with (refine ⟨trivial, ?_⟩; gi_at_call 29; refine (callsIn_wide.2 hT).mono ?_; rintro e w1 ⟨rfl, hb1⟩)
            go_roundw
            case rel => exact ⟨to + 1, by go_num, by omega, hto, Lib.hid (hre.out.trans (hcon (by trivial))), hJ _ _ _ hJ1 (below_grown hb1), hG2 _ _ hb1 hG⟩
            case measure => simp [intOf] <;> omega
          | false =>
            clear hcon
            replace hfin := hfin (by trivial)
            have hpr : (k, to).1 < (k, to).2 ∧ (k, to).2 ≤ N := ⟨h1, h2⟩
            have hlen : pre.length < (S.spans N tg 0).length := by rw [hx.out, S.spans_step hlt]; simp
            gi_wp2_with (refine ⟨trivial, ?_⟩; gi_at_call 29; refine (callsIn_wide.2 hT).mono ?_; rintro e w1 ⟨rfl, hb1⟩; have hJ2 := hJ _ _ _ hJ1 (below_grown hb1); have hG3 := hG2 _ _ hb1 hG; obtain ⟨fn, tmps, assign, body, hy, hR⟩ := hY pre ⟨(k, to), hpr⟩ w1 hJ2 hlen; dsimp only [S.sv] at hy)
            refine hR.mono ?_
            rintro e W3 (⟨rfl, hJ3, hk3⟩ | ⟨rfl, hJx3⟩)
            · gi_wp2
              go_roundw
              case rel => exact ⟨pre ++ [⟨(k, to), hpr⟩], to, by go_num, h2, Lib.hid (by rw [hx.out, S.spans_step hlt]; simp [hre.out, hfin]), hJ3, hk3 hG3⟩
              case measure => simp [intOf] <;> omega
            · gi_wp2
              refine bodyPost_ret (results_none rfl _ _ _) rfl ?_
              exact ⟨⟨_, rfl⟩, .inr ⟨pre ++ [⟨(k, to), hpr⟩], ⟨S.spans N tg to, by rw [hx.out, S.spans_step hlt]; simp [hre.out, hfin]⟩, hJx3⟩⟩
        · have hfin : S.runEnd N tg to = to := S.runEnd_out hto
          have hpr : (k, to).1 < (k, to).2 ∧ (k, to).2 ≤ N := ⟨h1, h2⟩
          have hlen : pre.length < (S.spans N tg 0).length := by rw [hx.out, S.spans_step hlt]; simp
          have hG3 := hG
          obtain ⟨fn, tmps, assign, body, hy, hR⟩ := hY pre ⟨(k, to), hpr⟩ _ hJ1 hlen
          dsimp only [S.sv] at hy
          gi_wp2
          refine ⟨fun _ h => (by cases h), ?_⟩
          gi_wp2
          refine hR.mono ?_
          rintro e W3 (⟨rfl, hJ3, hk3⟩ | ⟨rfl, hJx3⟩)
          · gi_wp2
            go_roundw
            case rel => exact ⟨pre ++ [⟨(k, to), hpr⟩], to, by go_num, h2, Lib.hid (by rw [hx.out, S.spans_step hlt]; simp [hre.out, hfin]), hJ3, hk3 hG3⟩
            case measure => simp [intOf] <;> omega
          · gi_wp2
            refine bodyPost_ret (results_none rfl _ _ _) rfl ?_
            exact ⟨⟨_, rfl⟩, .inr ⟨pre ++ [⟨(k, to), hpr⟩], ⟨S.spans N tg to, by rw [hx.out, S.spans_step hlt]; simp [hre.out, hfin]⟩, hJx3⟩⟩
    · gi_wp2
      go_end0
      have hkk : k = N := by omega
      subst hkk
      exact ⟨⟨_, rfl⟩, .inl ⟨pre, by rw [hx.out, S.spans_out (by omega)]; simp, hJs⟩⟩
/-- spans: both parameters are boxed. -/
theorem spans_in (n : Nat) (A : Option Addr) (N c g : Nat) (lb : Array Value) (w : World) :
    CallsIn Fence.wide n Try.prog 28 #[.slice A N c, .func (.func g) #[] lb] w fun e w' => e = .returned (.func (.func 40) #[] #[.pointer (some ⟨w.heap.size, 0, none⟩), .pointer (some ⟨w.heap.size + 1, 0, none⟩)]) ∧ w' = (w.alloc (.cells #[.slice A N c] 22)).alloc (.cells #[.func (.func g) #[] lb] 46) := by
  refine callsIn_of_wp Try.func28 rfl trivial ?_ rfl
  simp only [Try.ntmps28, List.size_toArray, List.length_cons, List.length_nil, Nat.reduceAdd, Nat.reduceSub, Array.replicate_succ, Array.replicate_zero, List.push_toArray, List.append_toArray, List.nil_append, List.cons_append]
  gi_wp2
  go_ret
  exact ⟨rfl, rfl⟩

theorem spans_stops_29 (n : Nat) (hn : 1 ≤ n) (Bl Bt Bx : Nat) (A : Option Addr) (c N : Nat) (hN : N ≤ 2 ^ 62) (tg : Nat → Bool) (G : World → Prop)
    (hG1 : ∀ W, G W → Boxed W Bl 22 (.slice A N c) ∧ Boxed W Bt 46 (.func (.func 29) #[] #[.pointer (some ⟨Bx, 0, none⟩)]))
    (hG2 : ∀ W W', Below W.heap.size W W' → G W → G W')
    (hTg : ∀ (i : Nat) W, G W → 1 ≤ i → i < N → Calls Try.prog 29 #[.int .i64 i, .pointer (some ⟨Bx, 0, none⟩)] W fun e W' => e = .returned (.bool (tg i)) ∧ Below W.heap.size W W')
    (w : World) (hGw : G w) :
    SeqStopsK Fence.wide n Try.prog 40 #[.pointer (some ⟨Bl, 0, none⟩), .pointer (some ⟨Bt, 0, none⟩)] (S.sv : S.Sp N → Array Value) (fun W W' => G W → G W') (fun ys => ys = S.spans N tg 0) (fun pre => pre <+: S.spans N tg 0) (S.spans N tg 0).length w := fun l J Jx W hW hJ _ hY h0 =>
  spans1_29 n hn l Bl Bt Bx A c N hN tg G hG1 hG2 hTg J Jx (fun s A B hs hg => hJ s A B none hs hg (by simp)) hY W (hG2 _ _ hW hGw) h0
set_option maxRecDepth 100000 in
set_option maxHeartbeats 4000000 in
/-- spans' closure, for every loop body that keeps G. -/
theorem spans1_32 (n : Nat) (hn : 1 ≤ n) (l Bl Bt Bx : Nat) (A : Option Addr) (c N : Nat) (hN : N ≤ 2 ^ 62) (tg : Nat → Bool) (G : World → Prop)
    (hG1 : ∀ W, G W → Boxed W Bl 22 (.slice A N c) ∧ Boxed W Bt 46 (.func (.func 32) #[] #[.pointer (some ⟨Bx, 0, none⟩)]))
    (hG2 : ∀ W W', Below W.heap.size W W' → G W → G W')
    (hTg : ∀ (i : Nat) W, G W → 1 ≤ i → i < N → Calls Try.prog 32 #[.int .i64 i, .pointer (some ⟨Bx, 0, none⟩)] W fun e W' => e = .returned (.bool (tg i)) ∧ Below W.heap.size W W')
    (J Jx : List (S.Sp N) → World → Prop) (hJ : ∀ s W W', J s W → W.grownBy W' none → J s W')
    (hY : ∀ pre x W, J pre W → pre.length < (S.spans N tg 0).length → YieldAt Fence.wide (n - 1) Try.prog l (S.sv x) W fun e W' =>
      (e = .returned (.bool true) ∧ J (pre ++ [x]) W' ∧ (G W → G W')) ∨ (e = .returned (.bool false) ∧ Jx (pre ++ [x]) W'))
    (W : World) (hGW : G W) (h0 : J [] W) :
    CallsIn Fence.wide n Try.prog 40 #[.func (.yield l) #[] #[], .pointer (some ⟨Bl, 0, none⟩), .pointer (some ⟨Bt, 0, none⟩)] W fun e W' => (∃ v, e = .returned v) ∧
      ((∃ ys, ys = S.spans N tg 0 ∧ J ys W') ∨ (∃ pre, pre <+: S.spans N tg 0 ∧ Jx pre W')) := by
  refine callsIn_of_wp Try.func40 rfl trivial ?_ rfl
  simp only [Try.ntmps40, List.size_toArray, List.length_cons, List.length_nil, Nat.reduceAdd, Nat.reduceSub, Array.replicate_succ, Array.replicate_zero, List.push_toArray, List.append_toArray, List.nil_append, List.cons_append]
  gi_wp2
  gi_loopw [4] (fun p wr => ∃ (pre : List (S.Sp N)) (k : Nat), p = .int .i64 k ∧ k ≤ N ∧ Hid (S.spans N tg 0 = pre ++ S.spans N tg k) ∧ J pre wr ∧ G wr)
    (fun p _ => N - (intOf p).toNat)
  case atStart =>
    exact ⟨[], 0, rfl, Nat.zero_le _, Lib.hid rfl, h0, hGW⟩
  case round =>
    obtain ⟨pre, k, rfl, hk, hx, hJs, hGs⟩ := hrel
    have c1 := (hG1 _ hGs).1.cell
    by_cases hlt : k < N
    · gi_wp2
      gi_loopw [5] (fun p wr => ∃ (to : Nat), p = .int .i64 to ∧ k + 1 ≤ to ∧ to ≤ N ∧ Hid (S.runEnd N tg (k + 1) = S.runEnd N tg to) ∧ J pre wr ∧ G wr)
        (fun p _ => N - (intOf p).toNat)
      case atStart => exact ⟨k + 1, by go_num, Nat.le_refl _, hlt, Lib.hid rfl, hJs, hGs⟩
      case round =>
        obtain ⟨to, rfl, h1, h2, hre, hJ1, hG⟩ := hrel
        have d1 := (hG1 _ hG).1.cell
        have d2 := (hG1 _ hG).2.cell
        by_cases hto : to < N
        · have hT := hTg to _ hG (by omega) hto
          have hfin : tg to = false → S.runEnd N tg to = to := S.runEnd_miss
          have hcon : tg to = true → S.runEnd N tg to = S.runEnd N tg (to + 1) := S.runEnd_hit hto
          obtain ⟨b, hb⟩ : ∃ b, b = tg to := ⟨_, rfl⟩
          rw [← hb] at hT hfin hcon
          clear hb
          cases b with
          | true =>
            clear hfin
            gi_wp2_with (refine ⟨trivial, ?_⟩; gi_at_call 32; refine (callsIn_wide.2 hT).mono ?_; rintro e w1 ⟨rfl, hb1⟩)
            go_roundw
            case rel => exact ⟨to + 1, by go_num, by omega, hto, Lib.hid (hre.out.trans (hcon (by trivial))), hJ _ _ _ hJ1 (below_grown hb1), hG2 _ _ hb1 hG⟩
            case measure => simp [intOf] <;> omega
          | false =>
            clear hcon
            replace hfin := hfin (by trivial)
            have hpr : (k, to).1 < (k, to).2 ∧ (k, to).2 ≤ N := ⟨h1, h2⟩
            have hlen : pre.length < (S.spans N tg 0).length := by rw [hx.out, S.spans_step hlt]; simp
            gi_wp2_with (refine ⟨trivial, ?_⟩; gi_at_call 32; refine (callsIn_wide.2 hT).mono ?_; rintro e w1 ⟨rfl, hb1⟩; have hJ2 := hJ _ _ _ hJ1 (below_grown hb1); have hG3 := hG2 _ _ hb1 hG; obtain ⟨fn, tmps, assign, body, hy, hR⟩ := hY pre ⟨(k, to), hpr⟩ w1 hJ2 hlen; dsimp only [S.sv] at hy)
            refine hR.mono ?_
            rintro e W3 (⟨rfl, hJ3, hk3⟩ | ⟨rfl, hJx3⟩)
            · gi_wp2
              go_roundw
              case rel => exact ⟨pre ++ [⟨(k, to), hpr⟩], to, by go_num, h2, Lib.hid (by rw [hx.out, S.spans_step hlt]; simp [hre.out, hfin]), hJ3, hk3 hG3⟩
              case measure => simp [intOf] <;> omega
            · gi_wp2
              refine bodyPost_ret (results_none rfl _ _ _) rfl ?_
              exact ⟨⟨_, rfl⟩, .inr ⟨pre ++ [⟨(k, to), hpr⟩], ⟨S.spans N tg to, by rw [hx.out, S.spans_step hlt]; simp [hre.out, hfin]⟩, hJx3⟩⟩
        · have hfin : S.runEnd N tg to = to := S.runEnd_out hto
          have hpr : (k, to).1 < (k, to).2 ∧ (k, to).2 ≤ N := ⟨h1, h2⟩
          have hlen : pre.length < (S.spans N tg 0).length := by rw [hx.out, S.spans_step hlt]; simp
          have hG3 := hG
          obtain ⟨fn, tmps, assign, body, hy, hR⟩ := hY pre ⟨(k, to), hpr⟩ _ hJ1 hlen
          dsimp only [S.sv] at hy
          gi_wp2
          refine ⟨fun _ h => (by cases h), ?_⟩
          gi_wp2
          refine hR.mono ?_
          rintro e W3 (⟨rfl, hJ3, hk3⟩ | ⟨rfl, hJx3⟩)
          · gi_wp2
            go_roundw
            case rel => exact ⟨pre ++ [⟨(k, to), hpr⟩], to, by go_num, h2, Lib.hid (by rw [hx.out, S.spans_step hlt]; simp [hre.out, hfin]), hJ3, hk3 hG3⟩
            case measure => simp [intOf] <;> omega
          · gi_wp2
            refine bodyPost_ret (results_none rfl _ _ _) rfl ?_
            exact ⟨⟨_, rfl⟩, .inr ⟨pre ++ [⟨(k, to), hpr⟩], ⟨S.spans N tg to, by rw [hx.out, S.spans_step hlt]; simp [hre.out, hfin]⟩, hJx3⟩⟩
    · gi_wp2
      go_end0
      have hkk : k = N := by omega
      subst hkk
      exact ⟨⟨_, rfl⟩, .inl ⟨pre, by rw [hx.out, S.spans_out (by omega)]; simp, hJs⟩⟩
theorem spans_stops_32 (n : Nat) (hn : 1 ≤ n) (Bl Bt Bx : Nat) (A : Option Addr) (c N : Nat) (hN : N ≤ 2 ^ 62) (tg : Nat → Bool) (G : World → Prop)
    (hG1 : ∀ W, G W → Boxed W Bl 22 (.slice A N c) ∧ Boxed W Bt 46 (.func (.func 32) #[] #[.pointer (some ⟨Bx, 0, none⟩)]))
    (hG2 : ∀ W W', Below W.heap.size W W' → G W → G W')
    (hTg : ∀ (i : Nat) W, G W → 1 ≤ i → i < N → Calls Try.prog 32 #[.int .i64 i, .pointer (some ⟨Bx, 0, none⟩)] W fun e W' => e = .returned (.bool (tg i)) ∧ Below W.heap.size W W')
    (w : World) (hGw : G w) :
    SeqStopsK Fence.wide n Try.prog 40 #[.pointer (some ⟨Bl, 0, none⟩), .pointer (some ⟨Bt, 0, none⟩)] (S.sv : S.Sp N → Array Value) (fun W W' => G W → G W') (fun ys => ys = S.spans N tg 0) (fun pre => pre <+: S.spans N tg 0) (S.spans N tg 0).length w := fun l J Jx W hW hJ _ hY h0 =>
  spans1_32 n hn l Bl Bt Bx A c N hN tg G hG1 hG2 hTg J Jx (fun s A B hs hg => hJ s A B none hs hg (by simp)) hY W (hG2 _ _ hW hGw) h0
end Go.Proofs.Ythfpiomooomhoaa
