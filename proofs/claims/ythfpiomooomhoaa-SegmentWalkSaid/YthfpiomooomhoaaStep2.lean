/-
  The walks of layer 22: the previous span, by the program and the reference. By an AI agent.
-/
import Derived.Test.YthfpiomooomhoaaStep
namespace Go.Proofs.Ythfpiomooomhoaa
open Go.RowKit Go.Shelf

attribute [local go_sem] Oper.semAt_some

/-- The last of the first n spans that begins before an index. -/
def S.prevN (l : List (Int × Int)) (at_ : Int) : Nat → (Int × Int) × Bool
  | 0 => ((0, 0), false)
  | n + 1 => if (l.getD n (0, 0)).1 < at_ then (l.getD n (0, 0), true) else S.prevN l at_ n
def S.prev (l : List (Int × Int)) (at_ : Int) : (Int × Int) × Bool := S.prevN l at_ l.length

def S.iv : Nat → Value
  | 0 => .int .i64 (-1)
  | j + 1 => .int .i64 j
theorem S.iv_eq (n : Nat) : Value.int .i64 ((n : Int) - 1) = S.iv n := by
  cases n with
  | zero => rfl
  | succ j => show Value.int .i64 (((j + 1 : Nat) : Int) - 1) = .int .i64 j; congr 1; omega

/-- From n - 1 down to 0. -/
def S.downs : Nat → List Nat
  | 0 => []
  | n + 1 => n :: S.downs n
theorem S.downs_len : ∀ n, (S.downs n).length = n
  | 0 => rfl
  | n + 1 => by simp [S.downs, S.downs_len n]
theorem S.prev_stop (l : List (Int × Int)) (at_ : Int) : ∀ (n : Nat) (pre : List Nat) (x : Nat), pre ++ [x] <+: S.downs n → (∀ y ∈ pre, at_ ≤ (l.getD y (0, 0)).1) → (l.getD x (0, 0)).1 < at_ → S.prevN l at_ n = (l.getD x (0, 0), true)
  | 0, pre, x, h, _, _ => by
    have := h.length_le
    simp [S.downs] at this
  | n + 1, [], x, h, _, hx => by
    obtain ⟨t, ht⟩ := h
    simp [S.downs] at ht
    obtain ⟨rfl, _⟩ := ht
    rw [S.prevN, if_pos hx]
  | n + 1, y :: pre, x, h, hp, hx => by
    obtain ⟨t, ht⟩ := h
    simp only [S.downs, List.cons_append, List.cons.injEq] at ht
    obtain ⟨rfl, ht⟩ := ht
    have h1 := hp y (by simp)
    rw [S.prevN, if_neg (by omega)]
    exact S.prev_stop l at_ y pre x ⟨t, by simpa using ht⟩ (fun z hz => hp z (by simp [hz])) hx
theorem S.prev_done (l : List (Int × Int)) (at_ : Int) : ∀ (n : Nat), (∀ y ∈ S.downs n, at_ ≤ (l.getD y (0, 0)).1) → S.prevN l at_ n = ((0, 0), false)
  | 0, _ => rfl
  | n + 1, h => by
    have h1 := h n (by simp [S.downs])
    rw [S.prevN, if_neg (by omega)]
    exact S.prev_done l at_ n (fun y hy => h y (by simp [S.downs, hy]))

set_option maxHeartbeats 4000000 in
theorem refprev_any (at_ : Int) (A : Option Addr) (c B : Nat) (l : List (Int × Int)) (w : World) (hr : Reads w B 2 A l.length (l.flatMap S.zc)) (hB : B ≤ w.heap.size) (hm : l.length ≤ 1000000) :
    Calls Try.prog 26 #[.slice A l.length c, .int .i64 at_] w fun e w' => e = .returned (.tuple #[S.zv (S.prev l at_).1, .bool (S.prev l at_).2]) ∧ Below w.heap.size w w' := by
  have HR := Lib.hid hr
  clear hr
  go_enter Try.func26, Try.ntmps26
  go_wp2
  go_loop [6] (fun i => ∃ k : Nat, k ≤ l.length ∧ i = S.iv k ∧ Hid (S.prev l at_ = S.prevN l at_ k)) (fun i => (intOf i + 1).toNat)
  case atStart => exact ⟨l.length, Nat.le_refl _, S.iv_eq _, Lib.hid rfl⟩
  case round =>
    obtain ⟨k, hk, rfl, hprev⟩ := hrel
    cases k with
    | succ j =>
      have hp2 : S.prevN l at_ (j + 1) = if (l.getD j (0, 0)).1 < at_ then (l.getD j (0, 0), true) else S.prevN l at_ j := rfl
      obtain ⟨b, off, rfl, hlo, hc⟩ := HR.out.zspan (by omega)
      obtain ⟨c0, c1⟩ := hc j (by omega)
      have hbl : b < w.heap.size := by omega
      have hiv : S.iv (j + 1) = .int .i64 j := rfl
      rw [hiv]
      clear hiv
      by_cases h0 : (l.getD j (0, 0)).1 < at_
      · have hI : Hid (S.prev l at_ = (l.getD j (0, 0), true)) := Lib.hid (by rw [hprev.out, hp2, if_pos h0])
        clear hc hprev hp2
        generalize l.getD j (0, 0) = g at *
        go_wp2
        refine bodyPost_ret (v := .tuple #[S.zv g, .bool true]) (by simp [results, Try.results26, go_sem, S.zv]) rfl ⟨by rw [hI.out], ?_⟩
        first | exact ((Below.refl _ _).alloc (Nat.le_refl _) _) | exact (((Below.refl _ _).alloc (Nat.le_refl _) _).setCell (by simp) _).setCell (by simp) _
      · have hI : Hid (S.prev l at_ = S.prevN l at_ j) := Lib.hid (by rw [hprev.out, hp2, if_neg h0])
        clear hc hprev hp2
        generalize l.getD j (0, 0) = g at *
        go_wp2
        go_round
        case rel => exact ⟨j, by omega, S.iv_eq j, hI⟩
        case measure => simp [intOf] <;> omega
    | zero =>
      have hI : Hid (S.prev l at_ = ((0, 0), false)) := Lib.hid hprev.out
      have hiv : S.iv 0 = .int .i64 (-1) := rfl
      rw [hiv]
      clear hprev hiv
      go_wp2
      refine bodyPost_ret (v := .tuple #[S.zv (0, 0), .bool false]) (by simp [results, Try.results26, go_sem, S.zv]) rfl ⟨by rw [hI.out], ?_⟩
      first | exact ((Below.refl _ _).alloc (Nat.le_refl _) _) | exact (((Below.refl _ _).alloc (Nat.le_refl _) _).setCell (by simp) _).setCell (by simp) _

theorem back_in (n : Nat) (A : Option Addr) (N c : Nat) (w : World) :
    CallsIn Fence.wide n Try.prog 39 #[.slice A N c] w fun e w' => e = .returned (.func (.func 42) #[] #[.pointer (some ⟨w.heap.size, 0, none⟩)]) ∧ w' = w.alloc (.cells #[.slice A N c] 28) := by
  refine callsIn_of_wp Try.func39 rfl trivial ?_ rfl
  simp only [Try.ntmps39, List.size_toArray, List.length_cons, List.length_nil, Nat.reduceAdd, Nat.reduceSub, Array.replicate_succ, Array.replicate_zero, List.push_toArray, List.append_toArray, List.nil_append, List.cons_append]
  gi_wp2
  go_ret
  exact ⟨rfl, rfl⟩

/-- What a round of the loop over the spans is given. -/
def S.be (l : List (Int × Int)) (x : Nat) : Array Value := #[.int .i64 x, .agg #[.int .i64 (l.getD x (0, 0)).1, .int .i64 (l.getD x (0, 0)).2]]

set_option maxRecDepth 100000 in
set_option maxHeartbeats 4000000 in
theorem back42 (n : Nat) (hn : 1 ≤ n) (lam Bs : Nat) (A : Option Addr) (c B : Nat) (l : List (Int × Int)) (hm : l.length ≤ 1000000) (G : World → Prop)
    (hG : ∀ W, G W → Boxed W Bs 28 (.slice A l.length c) ∧ Reads W B 2 A l.length (l.flatMap S.zc))
    (J Jx : List Nat → World → Prop)
    (hY : ∀ pre x W, J pre W → pre.length < l.length → YieldAt Fence.wide (n - 1) Try.prog lam (S.be l x) W fun e W' =>
      (e = .returned (.bool true) ∧ J (pre ++ [x]) W' ∧ (G W → G W')) ∨ (e = .returned (.bool false) ∧ Jx (pre ++ [x]) W'))
    (W : World) (hGW : G W) (h0 : J [] W) :
    CallsIn Fence.wide n Try.prog 42 #[.func (.yield lam) #[] #[], .pointer (some ⟨Bs, 0, none⟩)] W fun e W' => (∃ v, e = .returned v) ∧
      ((∃ ys, ys = S.downs l.length ∧ J ys W') ∨ (∃ pre, pre <+: S.downs l.length ∧ Jx pre W')) := by
  have d0 := (hG _ hGW).1.cell
  refine callsIn_of_wp Try.func42 rfl trivial ?_ rfl
  simp only [Try.ntmps42, List.size_toArray, List.length_cons, List.length_nil, Nat.reduceAdd, Nat.reduceSub, Array.replicate_succ, Array.replicate_zero, List.push_toArray, List.append_toArray, List.nil_append, List.cons_append]
  gi_wp2
  gi_loopw [3] (fun p wr => ∃ (pre : List Nat) (k : Nat), p = S.iv k ∧ k ≤ l.length ∧ Hid (S.downs l.length = pre ++ S.downs k) ∧ J pre wr ∧ G wr) (fun p _ => (intOf p + 1).toNat)
  case atStart => exact ⟨[], l.length, S.iv_eq _, Nat.le_refl _, Lib.hid rfl, h0, hGW⟩
  case round =>
    obtain ⟨pre, k, rfl, hk, hx, hJs, hGs⟩ := hrel
    have c1 := (hG _ hGs).1.cell
    clear d0
    cases k with
    | succ j =>
      have hlen : pre.length < l.length := by
        have := congrArg List.length hx.out
        rw [List.length_append, S.downs_len, S.downs_len] at this
        omega
      obtain ⟨b, off, rfl, hlo, hc⟩ := (hG _ hGs).2.zspan (by omega)
      obtain ⟨e0, e1⟩ := hc j (by omega)
      clear hc
      have hiv : S.iv (j + 1) = .int .i64 j := rfl
      rw [hiv]
      clear hiv
      obtain ⟨fn, tmps, assign, body, hy, hR⟩ := hY pre j _ hJs hlen
      dsimp only [S.be] at hy
      generalize l.getD j (0, 0) = g at hy e0 e1
      gi_wp2
      refine hR.mono ?_
      rintro e W3 (⟨rfl, hJ3, hk3⟩ | ⟨rfl, hJx3⟩)
      · gi_wp2
        go_roundw
        case rel => exact ⟨pre ++ [j], j, S.iv_eq j, by omega, Lib.hid (by rw [hx.out]; simp [S.downs]), hJ3, hk3 hGs⟩
        case measure => simp [intOf] <;> omega
      · gi_wp2
        refine bodyPost_ret (results_none rfl _ _ _) rfl ?_
        exact ⟨⟨_, rfl⟩, .inr ⟨pre ++ [j], ⟨S.downs j, by rw [hx.out]; simp [S.downs]⟩, hJx3⟩⟩
    | zero =>
      have hiv : S.iv 0 = .int .i64 (-1) := rfl
      rw [hiv]
      clear hiv
      gi_wp2
      go_end0
      exact ⟨⟨_, rfl⟩, .inl ⟨pre, by rw [hx.out]; simp [S.downs], hJs⟩⟩

theorem back_stops (n : Nat) (hn : 1 ≤ n) (Bs : Nat) (A : Option Addr) (c B : Nat) (l : List (Int × Int)) (hm : l.length ≤ 1000000) (G : World → Prop)
    (hG : ∀ W, G W → Boxed W Bs 28 (.slice A l.length c) ∧ Reads W B 2 A l.length (l.flatMap S.zc)) (hG2 : ∀ W W', Below W.heap.size W W' → G W → G W') (w : World) (hGw : G w) :
    SeqStopsK Fence.wide n Try.prog 42 #[.pointer (some ⟨Bs, 0, none⟩)] (S.be l) (fun W W' => G W → G W') (fun ys => ys = S.downs l.length) (fun pre => pre <+: S.downs l.length) l.length w := fun lam J Jx W hW hJ _ hY h0 =>
  back42 n hn lam Bs A c B l hm G hG J Jx hY W (hG2 _ _ hW hGw) h0
end Go.Proofs.Ythfpiomooomhoaa
