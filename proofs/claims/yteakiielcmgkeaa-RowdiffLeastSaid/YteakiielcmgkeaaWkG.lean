/-
  The walks of layer 16: the iterator over the walk's steps (glyphs). By an AI agent.
-/
import Derived.Test.YteakiielcmgkeaaRange
import Derived.Shelf.Abstract
import Derived.Shelf.RegionOpen
import Derived.WalkKit
import Derived.OwnWalkIn
import Derived.TacticsInMore
import Derived.LoopNIn
import Derived.LoopIn
import Derived.Maps.AppendAt
import Derived.Sort.QuietTacIn
import Derived.Test.YteakiielcmgkeaaLensG
import Derived.Test.YteakiielcmgkeaaEPlain3
namespace Go.Proofs.Yteakiielcmgkeaa
open Go.RowKit Go.Shelf Go.Deep

attribute [local go_sem] Oper.semAt_some

theorem getD_at {α : Type} {l : List α} {d : α} {k : Nat} (h : k < l.length) : l.getD k d = l[k] := by simp [List.getD, h]
theorem below_grown {W W' : World} (h : Below W.heap.size W W') : W.grownBy W' none := ⟨h.os, h.tape, h.output, h.size, fun k hk _ => h.block k hk⟩

namespace E
/-- A step with its index, as the loop's body is given it. -/
def sv (x : Nat × Nat) : Array Value := #[.int .i64 x.1, .int .i64 x.2]

/-- The blocks from T up to H are as they were, if they are cells. -/
def Same (T H : Nat) (W W' : World) : Prop := ∀ k, T ≤ k → k < H → ∀ o, W.heap[k]? = some o → o.isCells = true → W'.heap[k]? = some o

/-- A full table. -/
structure TbK (T TI N : Nat) (W : World) (n m : Nat) (f : Nat → Nat → Nat) : Prop where
  top : W.rowIs N T (n + 1) (E.top N n m 0)
  done : ∀ j, j ≤ n → W.rowIs (N + 1 + (n - j)) TI (m + 1) (fun k => .int .i64 (f j k))
theorem tb_tbk {T TI N n m : Nat} {w W : World} {f : Nat → Nat → Nat} (h : Tb T TI N w W n m 0 f) : TbK T TI N W n m f := ⟨h.top, fun j hj => h.done j (Nat.zero_le _) hj⟩

theorem rowIs_same {W W' : World} {b T H t n : Nat} {g : Nat → Value} (h : W.rowIs b t n g) (hs : Same T H W W') (h1 : T ≤ b) (h2 : b < H) : W'.rowIs b t n g := by
  obtain ⟨cur, hc, _⟩ := id h
  refine h.of_block ?_
  rw [hc]
  exact hs b h1 h2 _ hc rfl
theorem TbK.same {T TI N n m H : Nat} {W W' : World} {f : Nat → Nat → Nat} (h : TbK T TI N W n m f) (hs : Same N H W W') (hH : N + 1 + n < H) : TbK T TI N W' n m f :=
  ⟨rowIs_same h.top hs (Nat.le_refl _) (by omega), fun j hj => rowIs_same (h.done j hj) hs (by omega) (by omega)⟩

/-- What a round keeps: what the iterator asks (G), and the table that it has made. -/
def Kp (G : World → Prop) (Fr : Nat → Nat → World → Prop) (W W' : World) : Prop :=
  (G W → G W') ∧ ∀ T H, Fr T H W → H ≤ W.heap.size → Fr T H W' ∧ H ≤ W'.heap.size ∧ Same T H W W'
theorem Kp.trans {G : World → Prop} {Fr : Nat → Nat → World → Prop} {A B C : World} (h : Kp G Fr A B) (k : Kp G Fr B C) : Kp G Fr A C :=
  ⟨fun g => k.1 (h.1 g), fun T H f hh => by
    obtain ⟨a1, a2, a3⟩ := h.2 T H f hh
    obtain ⟨b1, b2, b3⟩ := k.2 T H a1 a2
    exact ⟨b1, b2, fun i h1 h2 o ho hc => b3 i h1 h2 o (a3 i h1 h2 o ho hc) hc⟩⟩

/-- What holds at the head of the iterator's loop. -/
structure St (J : List (Nat × Nat) → World → Prop) (G : World → Prop) (Fr : Nat → Nat → World → Prop) (T H TT TI n m : Nat) (f : Nat → Nat → Nat) (pre : List (Nat × Nat)) (W : World) : Prop where
  j : J pre W
  g : G W
  fr : Fr T H W
  hs : H ≤ W.heap.size
  tb : TbK TT TI T W n m f
theorem St.drewN {J : List (Nat × Nat) → World → Prop} {G : World → Prop} {Fr : Nat → Nat → World → Prop} {T H TT TI n m : Nat} {f : Nat → Nat → Nat} {pre : List (Nat × Nat)} {W : World} (h : St J G Fr T H TT TI n m f pre W)
    (hG2 : ∀ W W', Below W.heap.size W W' → G W → G W') (hF2 : ∀ T H W k, Fr T H W → Fr T H (W.drewN k)) (hJ : ∀ s W W', J s W → W.grownBy W' none → J s W') (k : Nat) : St J G Fr T H TT TI n m f pre (W.drewN k) :=
  ⟨hJ _ _ _ h.j (below_grown (below_drewN (Below.refl _ _) k)), hG2 _ _ (below_drewN (Below.refl _ _) k) h.g, hF2 _ _ _ _ h.fr, h.hs, ⟨h.tb.top, h.tb.done⟩⟩
theorem St.next {J : List (Nat × Nat) → World → Prop} {G : World → Prop} {Fr : Nat → Nat → World → Prop} {T H TT TI n m : Nat} {f : Nat → Nat → Nat} {pre pre' : List (Nat × Nat)} {W W' : World} (h : St J G Fr T H TT TI n m f pre W)
    (hk : Kp G Fr W W') (hj : J pre' W') (hH : T + 1 + n < H) : St J G Fr T H TT TI n m f pre' W' := by
  obtain ⟨a1, a2, a3⟩ := hk.2 T H h.fr h.hs
  exact ⟨hj, hk.1 h.g, a1, a2, h.tb.same a3 hH⟩
end E

section
variable (a b : List R.G)
theorem E.walk_cases {i j : Nat} (hi : i ≤ a.length) (hj : j ≤ b.length) :
    (i = a.length ∧ j = b.length ∧ E.rest a b i j = []) ∨
    (i < a.length ∧ j = b.length ∧ E.rest a b i j = (1, i) :: E.rest a b (i + 1) j) ∨
    (i = a.length ∧ j < b.length ∧ E.rest a b i j = (2, i) :: E.rest a b i (j + 1)) ∨
    (i < a.length ∧ j < b.length ∧ ((a.getD i default = b.getD j default ∧ E.rest a b i j = (0, i) :: E.rest a b (i + 1) (j + 1)) ∨
      (a.getD i default ≠ b.getD j default ∧ E.L a b i (j + 1) ≤ E.L a b (i + 1) j ∧ E.rest a b i j = (1, i) :: E.rest a b (i + 1) j) ∨
      (a.getD i default ≠ b.getD j default ∧ E.L a b (i + 1) j < E.L a b i (j + 1) ∧ E.rest a b i j = (2, i) :: E.rest a b i (j + 1)))) := by
  by_cases h1 : i < a.length
  · by_cases h2 : j < b.length
    · refine .inr (.inr (.inr ⟨h1, h2, ?_⟩))
      rw [getD_at h1, getD_at h2]
      by_cases e : a[i] = b[j]
      · exact .inl ⟨e, E.rest_match h1 h2 e⟩
      · by_cases hl : E.L a b i (j + 1) ≤ E.L a b (i + 1) j
        · exact .inr (.inl ⟨e, hl, E.rest_rem h1 h2 e hl⟩)
        · exact .inr (.inr ⟨e, by omega, E.rest_add h1 h2 e hl⟩)
    · exact .inr (.inl ⟨h1, by omega, E.rest_rem_end h1 (by omega)⟩)
  · by_cases h2 : j < b.length
    · exact .inr (.inr (.inl ⟨by omega, h2, E.rest_add_end (by omega) h2⟩))
    · exact .inl ⟨by omega, by omega, E.rest_end (by omega) (by omega)⟩
end

set_option maxRecDepth 100000 in
set_option maxHeartbeats 16000000 in
theorem walk36 (n : Nat) (hn : 1 ≤ n) (lam Ba Bb : Nat) (A1 A2 : Option Addr) (c1 c2 B : Nat) (a b : List R.G) (hna : a.length ≤ 1000) (hnb : b.length ≤ 1000) (G : World → Prop) (Fr : Nat → Nat → World → Prop)
    (hG1 : ∀ W, G W → Boxed W Ba 22 (.slice A1 a.length c1) ∧ Boxed W Bb 22 (.slice A2 b.length c2) ∧ Reads W B 3 A1 a.length (R.gcs a) ∧ Reads W B 3 A2 b.length (R.gcs b) ∧ B ≤ W.heap.size)
    (hG2 : ∀ W W', Below W.heap.size W W' → G W → G W')
    (hF1 : ∀ W W', G W → Below W.heap.size W W' → Fr W.heap.size W'.heap.size W')
    (hF2 : ∀ T H W k, Fr T H W → Fr T H (W.drewN k))
    (J Jx : List (Nat × Nat) → World → Prop) (hJ : ∀ s W W', J s W → W.grownBy W' none → J s W')
    (hY : ∀ pre x W, J pre W → pre ++ [x] <+: E.ys a b → YieldAt Fence.wide (n - 1) Try.prog lam (E.sv x) W fun e W' =>
      (e = .returned (.bool true) ∧ J (pre ++ [x]) W' ∧ E.Kp G Fr W W') ∨ (e = .returned (.bool false) ∧ Jx (pre ++ [x]) W'))
    (W : World) (hGW : G W) (h0 : J [] W) :
    CallsIn Fence.wide n Try.prog 36 #[.func (.yield lam) #[] #[], .pointer (some ⟨Ba, 0, none⟩), .pointer (some ⟨Bb, 0, none⟩)] W fun e W' => (∃ v, e = .returned v) ∧
      (J (E.ys a b) W' ∨ ∃ pre, pre <+: E.ys a b ∧ Jx pre W') := by
  obtain ⟨x1, x2, x3, x4, x5⟩ := hG1 _ hGW
  have d1 := x1.cell
  have d2 := x2.cell
  have LN := Lib.hid (lengthsG_any A1 A2 c1 c2 B a b W x3 x4 x5 hna hnb)
  clear x1 x2 x3 x4 x5
  refine callsIn_of_wp Try.func36 rfl trivial ?_ rfl
  simp only [Try.ntmps36, List.size_toArray, List.length_cons, List.length_nil, Nat.reduceAdd, Nat.reduceSub, Array.replicate_succ, Array.replicate_zero, List.push_toArray, List.append_toArray, List.nil_append, List.cons_append]
  gi_wp2_with (refine ⟨trivial, ?_⟩; gi_at_call 32; refine (callsIn_wide.2 LN.out).mono ?_; clear LN; rintro e W1 ⟨rfl, hT⟩)
  have hbW := hT.below
  have hsz := hT.size
  have hTk := Lib.hid (E.tb_tbk hT)
  have hFr := Lib.hid (hF1 _ _ hGW hbW)
  have hG1W := Lib.hid (hG2 _ _ hbW hGW)
  have hJ1 := Lib.hid (hJ _ _ _ h0 (below_grown hbW))
  have HH : Hid (W.heap.size + 1 + a.length < W1.heap.size) := Lib.hid (by rw [hsz]; omega)
  obtain ⟨T, hTe⟩ : ∃ T, W.heap.size = T := ⟨_, rfl⟩
  obtain ⟨H, hHe⟩ : ∃ H, W1.heap.size = H := ⟨_, rfl⟩
  rw [hTe] at hTk hFr HH ⊢
  rw [hHe] at hFr HH
  have HS := Lib.hid (Nat.le_of_eq hHe.symm)
  clear hT hbW hsz d1 d2 hTe hHe hGW h0
  gi_loopw [5, 6] (fun vi vj wr => ∃ (pre : List (Nat × Nat)) (i j : Nat), vi = .int .i64 i ∧ vj = .int .i64 j ∧ i ≤ a.length ∧ j ≤ b.length ∧ Hid (E.ys a b = pre ++ E.rest a b i j) ∧ E.St J G Fr T H 50 3 a.length b.length (E.L a b) pre wr)
    (fun vi vj _ => (a.length - (intOf vi).toNat) + (b.length - (intOf vj).toNat))
  case atStart => exact ⟨[], 0, 0, rfl, rfl, Nat.zero_le _, Nat.zero_le _, Lib.hid rfl, ⟨hJ1.out, hG1W.out, hFr.out, HS.out, hTk.out⟩⟩
  case round =>
    clear hTk hFr hG1W hJ1 HS
    obtain ⟨pre, i, j, rfl, rfl, hi, hj, hx, hSt⟩ := hrel
    rcases E.walk_cases a b hi hj with ⟨rfl, rfl, hrs⟩ | ⟨h1, rfl, hrs⟩ | ⟨rfl, h2, hrs⟩ | ⟨h1, h2, ⟨he, hrs⟩ | ⟨he, hle, hrs⟩ | ⟨he, hle, hrs⟩⟩
    · obtain ⟨e1, e2, e3, e4, e5⟩ := hG1 _ hSt.g
      have k1 := e1.cell
      have k2 := e2.cell
      clear e1 e2 e3 e4 e5
      have RS := Lib.hid hrs
      have hj1 := Lib.hid hSt.j
      clear hrs hSt
      gi_wp2
      go_end0
      exact ⟨⟨_, rfl⟩, .inl (by rw [hx.out, RS.out, List.append_nil]; exact hj1.out)⟩
    · -- the new list is at its end
      obtain ⟨e1, e2, e3, e4, e5⟩ := hG1 _ hSt.g
      have k1 := e1.cell
      have k2 := e2.cell
      have hlen := Lib.hid (hx.out.trans (congrArg (pre ++ ·) hrs))
      have q1 : (0 : Int) ≤ (i : Int) := by omega
      have q2 : (i : Int) < (a.length : Int) := by omega
      clear e1 e2 e3 e4 e5
      have RS := Lib.hid hrs
      clear hrs
      have hSS := Lib.hid (fun q q' => (hSt.drewN hG2 hF2 hJ q).drewN hG2 hF2 hJ q')
      clear hSt
      gi_wp2
      gi_quiet_th (fail)
      have k1' : (wr.drewN nq).cell? _ = _ := k1
      have k2' : (wr.drewN nq).cell? _ = _ := k2
      have hS2 := Lib.hid (hSS.out nq)
      clear hSS
      generalize hw2 : World.drewN _ _ = w2 at *
      clear hw2
      gi_wp2
      gi_quiet_th (fail)
      have hS3 := hS2.out nq
      generalize hw3 : World.drewN _ _ = w3 at *
      clear hw3
      obtain ⟨fn, tmps, assign, body, hy, hR⟩ := hY pre (1, i) w3 hS3.j ⟨_, by rw [hlen.out, List.append_assoc]; rfl⟩
      rw [show E.sv (1, i) = #[.int .i64 1, .int .i64 i] from rfl] at hy
      gi_wp2
      refine hR.mono ?_
      rintro e W3 (⟨rfl, hJ3, hk3⟩ | ⟨rfl, hJx3⟩)
      · gi_wp2
        go_roundw
        case rel => exact ⟨pre ++ [(1, i)], i + 1, b.length, by first | rfl | go_num, by first | rfl | go_num, by omega, by omega, Lib.hid (by rw [hx.out, RS.out]; simp), hS3.next hk3 hJ3 HH.out⟩
        case measure => simp [intOf] <;> omega
      · gi_wp2
        refine bodyPost_ret (results_none rfl _ _ _) rfl ?_
        exact ⟨⟨_, rfl⟩, .inr ⟨pre ++ [(1, i)], ⟨E.rest a b (i + 1) (b.length), by rw [hx.out, RS.out]; simp⟩, hJx3⟩⟩
    · -- the old list is at its end
      obtain ⟨e1, e2, e3, e4, e5⟩ := hG1 _ hSt.g
      have k1 := e1.cell
      have k2 := e2.cell
      have hlen := Lib.hid (hx.out.trans (congrArg (pre ++ ·) hrs))
      have q3 : (0 : Int) ≤ (j : Int) := by omega
      have q4 : (j : Int) < (b.length : Int) := by omega
      have hjb : ((j : Int) == (b.length : Int)) = false := beq_eq_false_iff_ne.2 (by omega)
      clear e1 e2 e3 e4 e5
      have RS := Lib.hid hrs
      clear hrs
      have hSS := Lib.hid (fun q q' => (hSt.drewN hG2 hF2 hJ q).drewN hG2 hF2 hJ q')
      clear hSt
      gi_wp2
      gi_quiet_th (fail)
      have k1' : (wr.drewN nq).cell? _ = _ := k1
      have k2' : (wr.drewN nq).cell? _ = _ := k2
      have hS2 := Lib.hid (hSS.out nq)
      clear hSS
      generalize hw2 : World.drewN _ _ = w2 at *
      clear hw2
      gi_wp2
      gi_quiet_th (fail)
      have hS3 := hS2.out nq
      generalize hw3 : World.drewN _ _ = w3 at *
      clear hw3
      obtain ⟨fn, tmps, assign, body, hy, hR⟩ := hY pre (2, a.length) w3 hS3.j ⟨_, by rw [hlen.out, List.append_assoc]; rfl⟩
      rw [show E.sv (2, a.length) = #[.int .i64 2, .int .i64 a.length] from rfl] at hy
      gi_wp2
      refine hR.mono ?_
      rintro e W3 (⟨rfl, hJ3, hk3⟩ | ⟨rfl, hJx3⟩)
      · gi_wp2
        go_roundw
        case rel => exact ⟨pre ++ [(2, a.length)], a.length, j + 1, by first | rfl | go_num, by first | rfl | go_num, by omega, by omega, Lib.hid (by rw [hx.out, RS.out]; simp), hS3.next hk3 hJ3 HH.out⟩
        case measure => simp [intOf] <;> omega
      · gi_wp2
        refine bodyPost_ret (results_none rfl _ _ _) rfl ?_
        exact ⟨⟨_, rfl⟩, .inr ⟨pre ++ [(2, a.length)], ⟨E.rest a b (a.length) (j + 1), by rw [hx.out, RS.out]; simp⟩, hJx3⟩⟩
    · -- a match
      obtain ⟨e1, e2, e3, e4, e5⟩ := hG1 _ hSt.g
      have k1 := e1.cell
      have k2 := e2.cell
      have hlen := Lib.hid (hx.out.trans (congrArg (pre ++ ·) hrs))
      have q1 : (0 : Int) ≤ (i : Int) := by omega
      have q2 : (i : Int) < (a.length : Int) := by omega
      have q3 : (0 : Int) ≤ (j : Int) := by omega
      have q4 : (j : Int) < (b.length : Int) := by omega
      have hjb : ((j : Int) == (b.length : Int)) = false := beq_eq_false_iff_ne.2 (by omega)
      obtain ⟨ba, oa, rfl, hba, hca⟩ := e3.gl (by omega)
      obtain ⟨bb, ob, rfl, hbb, hcb⟩ := e4.gl (by omega)
      obtain ⟨x0, xa, xb⟩ := hca i h1
      obtain ⟨y0, ya, yb⟩ := hcb j h2
      rw [← getD_at (d := default) h1] at x0 xa xb
      rw [← getD_at (d := default) h2] at y0 ya yb
      clear hca hcb
      clear e1 e2 e3 e4 e5
      have RS := Lib.hid hrs
      clear hrs
      rw [he] at x0 xa xb
      have EQ := R.eq_yes (b.getD j default)
      clear he
      generalize b.getD j default = y at *
      have hS := Lib.hid (fun q => hSt.drewN hG2 hF2 hJ q)
      clear hSt
      gi_wp2
      gi_quiet_th (fail)
      have hS3 := hS.out nq
      generalize hw3 : World.drewN _ _ = w3 at *
      clear hw3
      obtain ⟨fn, tmps, assign, body, hy, hR⟩ := hY pre (0, i) w3 hS3.j ⟨_, by rw [hlen.out, List.append_assoc]; rfl⟩
      rw [show E.sv (0, i) = #[.int .i64 0, .int .i64 i] from rfl] at hy
      gi_wp2
      refine hR.mono ?_
      rintro e W3 (⟨rfl, hJ3, hk3⟩ | ⟨rfl, hJx3⟩)
      · gi_wp2
        go_roundw
        case rel => exact ⟨pre ++ [(0, i)], i + 1, j + 1, by first | rfl | go_num, by first | rfl | go_num, by omega, by omega, Lib.hid (by rw [hx.out, RS.out]; simp), hS3.next hk3 hJ3 HH.out⟩
        case measure => simp [intOf] <;> omega
      · gi_wp2
        refine bodyPost_ret (results_none rfl _ _ _) rfl ?_
        exact ⟨⟨_, rfl⟩, .inr ⟨pre ++ [(0, i)], ⟨E.rest a b (i + 1) (j + 1), by rw [hx.out, RS.out]; simp⟩, hJx3⟩⟩
    · -- a deletion
      obtain ⟨e1, e2, e3, e4, e5⟩ := hG1 _ hSt.g
      have k1 := e1.cell
      have k2 := e2.cell
      have hlen := Lib.hid (hx.out.trans (congrArg (pre ++ ·) hrs))
      have q1 : (0 : Int) ≤ (i : Int) := by omega
      have q2 : (i : Int) < (a.length : Int) := by omega
      have q3 : (0 : Int) ≤ (j : Int) := by omega
      have q4 : (j : Int) < (b.length : Int) := by omega
      have hjb : ((j : Int) == (b.length : Int)) = false := beq_eq_false_iff_ne.2 (by omega)
      obtain ⟨ba, oa, rfl, hba, hca⟩ := e3.gl (by omega)
      obtain ⟨bb, ob, rfl, hbb, hcb⟩ := e4.gl (by omega)
      obtain ⟨x0, xa, xb⟩ := hca i h1
      obtain ⟨y0, ya, yb⟩ := hcb j h2
      rw [← getD_at (d := default) h1] at x0 xa xb
      rw [← getD_at (d := default) h2] at y0 ya yb
      clear hca hcb
      have p1 := hSt.tb.top.cell (i := i + 1) (by omega)
      have p0 := hSt.tb.top.cell (i := i) (by omega)
      have d1 := (hSt.tb.done (i + 1) (by omega)).cell (i := j) (by omega)
      have d0 := (hSt.tb.done i (by omega)).cell (i := j + 1) (by omega)
      simp only [E.top, Nat.zero_le, if_true] at p0 p1
      obtain ⟨Bi, hBi⟩ : ∃ Bi, T + 1 + (a.length - i) = Bi := ⟨_, rfl⟩
      obtain ⟨Bn, hBn⟩ : ∃ Bn, T + 1 + (a.length - (i + 1)) = Bn := ⟨_, rfl⟩
      rw [hBi] at p0 d0
      rw [hBn] at p1 d1
      have q5 : (i : Int) < (a.length : Int) + 1 := by omega
      have q6 : (i : Int) + 1 < (a.length : Int) + 1 := by omega
      have q7 : (j : Int) < (b.length : Int) + 1 := by omega
      have q8 : (j : Int) + 1 < (b.length : Int) + 1 := by omega
      have q9 : (0 : Int) ≤ (i : Int) + 1 := by omega
      have q10 : (0 : Int) ≤ (j : Int) + 1 := by omega
      have u1 : IntKind.i64.wrap ((i : Int) + 1) = (i : Int) + 1 := by simp [IntKind.wrap, IntKind.bits, IntKind.signed]; omega
      have u2 : IntKind.i64.wrap ((j : Int) + 1) = (j : Int) + 1 := by simp [IntKind.wrap, IntKind.bits, IntKind.signed]; omega
      have u3 : ((i : Int) + 1).toNat = i + 1 := by omega
      have u4 : ((j : Int) + 1).toNat = j + 1 := by omega
      clear hBi hBn
      clear e1 e2 e3 e4 e5
      have RS := Lib.hid hrs
      clear hrs
      have EQ := R.eq_no he
      have hm : decide (((E.L a b i (j + 1) : Nat) : Int) ≤ ((E.L a b (i + 1) j : Nat) : Int)) = true := decide_eq_true (by omega)
      have hm2 : E.L a b i (j + 1) ≤ E.L a b (i + 1) j := by omega
      clear he hle
      generalize a.getD i default = x at *
      generalize b.getD j default = y at *
      generalize E.L a b (i + 1) j = v at *
      generalize E.L a b i (j + 1) = u at *
      have hSS := Lib.hid (fun q q' => (hSt.drewN hG2 hF2 hJ q).drewN hG2 hF2 hJ q')
      clear hSt
      gi_wp2
      gi_quiet_th (fail)
      have k1' : (wr.drewN nq).cell? _ = _ := k1
      have k2' : (wr.drewN nq).cell? _ = _ := k2
      have x0' : (wr.drewN nq).cell? _ = _ := x0
      have xa' : (wr.drewN nq).cell? _ = _ := xa
      have xb' : (wr.drewN nq).cell? _ = _ := xb
      have y0' : (wr.drewN nq).cell? _ = _ := y0
      have ya' : (wr.drewN nq).cell? _ = _ := ya
      have yb' : (wr.drewN nq).cell? _ = _ := yb
      have p0' : (wr.drewN nq).cell? _ = _ := p0
      have p1' : (wr.drewN nq).cell? _ = _ := p1
      have d0' : (wr.drewN nq).cell? _ = _ := d0
      have d1' : (wr.drewN nq).cell? _ = _ := d1
      have hS2 := Lib.hid (hSS.out nq)
      clear hSS
      generalize hw2 : World.drewN _ _ = w2 at *
      clear hw2
      gi_wp2
      gi_quiet_th (fail)
      have hS3 := hS2.out nq
      generalize hw3 : World.drewN _ _ = w3 at *
      clear hw3
      obtain ⟨fn, tmps, assign, body, hy, hR⟩ := hY pre (1, i) w3 hS3.j ⟨_, by rw [hlen.out, List.append_assoc]; rfl⟩
      rw [show E.sv (1, i) = #[.int .i64 1, .int .i64 i] from rfl] at hy
      gi_wp2
      refine hR.mono ?_
      rintro e W3 (⟨rfl, hJ3, hk3⟩ | ⟨rfl, hJx3⟩)
      · gi_wp2
        go_roundw
        case rel => exact ⟨pre ++ [(1, i)], i + 1, j, by first | rfl | go_num, by first | rfl | go_num, by omega, by omega, Lib.hid (by rw [hx.out, RS.out]; simp), hS3.next hk3 hJ3 HH.out⟩
        case measure => simp [intOf] <;> omega
      · gi_wp2
        refine bodyPost_ret (results_none rfl _ _ _) rfl ?_
        exact ⟨⟨_, rfl⟩, .inr ⟨pre ++ [(1, i)], ⟨E.rest a b (i + 1) (j), by rw [hx.out, RS.out]; simp⟩, hJx3⟩⟩
    · -- an insertion
      obtain ⟨e1, e2, e3, e4, e5⟩ := hG1 _ hSt.g
      have k1 := e1.cell
      have k2 := e2.cell
      have hlen := Lib.hid (hx.out.trans (congrArg (pre ++ ·) hrs))
      have q1 : (0 : Int) ≤ (i : Int) := by omega
      have q2 : (i : Int) < (a.length : Int) := by omega
      have q3 : (0 : Int) ≤ (j : Int) := by omega
      have q4 : (j : Int) < (b.length : Int) := by omega
      have hjb : ((j : Int) == (b.length : Int)) = false := beq_eq_false_iff_ne.2 (by omega)
      obtain ⟨ba, oa, rfl, hba, hca⟩ := e3.gl (by omega)
      obtain ⟨bb, ob, rfl, hbb, hcb⟩ := e4.gl (by omega)
      obtain ⟨x0, xa, xb⟩ := hca i h1
      obtain ⟨y0, ya, yb⟩ := hcb j h2
      rw [← getD_at (d := default) h1] at x0 xa xb
      rw [← getD_at (d := default) h2] at y0 ya yb
      clear hca hcb
      have p1 := hSt.tb.top.cell (i := i + 1) (by omega)
      have p0 := hSt.tb.top.cell (i := i) (by omega)
      have d1 := (hSt.tb.done (i + 1) (by omega)).cell (i := j) (by omega)
      have d0 := (hSt.tb.done i (by omega)).cell (i := j + 1) (by omega)
      simp only [E.top, Nat.zero_le, if_true] at p0 p1
      obtain ⟨Bi, hBi⟩ : ∃ Bi, T + 1 + (a.length - i) = Bi := ⟨_, rfl⟩
      obtain ⟨Bn, hBn⟩ : ∃ Bn, T + 1 + (a.length - (i + 1)) = Bn := ⟨_, rfl⟩
      rw [hBi] at p0 d0
      rw [hBn] at p1 d1
      have q5 : (i : Int) < (a.length : Int) + 1 := by omega
      have q6 : (i : Int) + 1 < (a.length : Int) + 1 := by omega
      have q7 : (j : Int) < (b.length : Int) + 1 := by omega
      have q8 : (j : Int) + 1 < (b.length : Int) + 1 := by omega
      have q9 : (0 : Int) ≤ (i : Int) + 1 := by omega
      have q10 : (0 : Int) ≤ (j : Int) + 1 := by omega
      have u1 : IntKind.i64.wrap ((i : Int) + 1) = (i : Int) + 1 := by simp [IntKind.wrap, IntKind.bits, IntKind.signed]; omega
      have u2 : IntKind.i64.wrap ((j : Int) + 1) = (j : Int) + 1 := by simp [IntKind.wrap, IntKind.bits, IntKind.signed]; omega
      have u3 : ((i : Int) + 1).toNat = i + 1 := by omega
      have u4 : ((j : Int) + 1).toNat = j + 1 := by omega
      clear hBi hBn
      clear e1 e2 e3 e4 e5
      have RS := Lib.hid hrs
      clear hrs
      have EQ := R.eq_no he
      have hm : decide (((E.L a b i (j + 1) : Nat) : Int) ≤ ((E.L a b (i + 1) j : Nat) : Int)) = false := decide_eq_false (by omega)
      have hm2 : ¬ E.L a b i (j + 1) ≤ E.L a b (i + 1) j := by omega
      clear he hle
      generalize a.getD i default = x at *
      generalize b.getD j default = y at *
      generalize E.L a b (i + 1) j = v at *
      generalize E.L a b i (j + 1) = u at *
      have hSS := Lib.hid (fun q q' => (hSt.drewN hG2 hF2 hJ q).drewN hG2 hF2 hJ q')
      clear hSt
      gi_wp2
      gi_quiet_th (fail)
      have k1' : (wr.drewN nq).cell? _ = _ := k1
      have k2' : (wr.drewN nq).cell? _ = _ := k2
      have x0' : (wr.drewN nq).cell? _ = _ := x0
      have xa' : (wr.drewN nq).cell? _ = _ := xa
      have xb' : (wr.drewN nq).cell? _ = _ := xb
      have y0' : (wr.drewN nq).cell? _ = _ := y0
      have ya' : (wr.drewN nq).cell? _ = _ := ya
      have yb' : (wr.drewN nq).cell? _ = _ := yb
      have p0' : (wr.drewN nq).cell? _ = _ := p0
      have p1' : (wr.drewN nq).cell? _ = _ := p1
      have d0' : (wr.drewN nq).cell? _ = _ := d0
      have d1' : (wr.drewN nq).cell? _ = _ := d1
      have hS2 := Lib.hid (hSS.out nq)
      clear hSS
      generalize hw2 : World.drewN _ _ = w2 at *
      clear hw2
      gi_wp2
      gi_quiet_th (fail)
      have hS3 := hS2.out nq
      generalize hw3 : World.drewN _ _ = w3 at *
      clear hw3
      obtain ⟨fn, tmps, assign, body, hy, hR⟩ := hY pre (2, i) w3 hS3.j ⟨_, by rw [hlen.out, List.append_assoc]; rfl⟩
      rw [show E.sv (2, i) = #[.int .i64 2, .int .i64 i] from rfl] at hy
      gi_wp2
      refine hR.mono ?_
      rintro e W3 (⟨rfl, hJ3, hk3⟩ | ⟨rfl, hJx3⟩)
      · gi_wp2
        go_roundw
        case rel => exact ⟨pre ++ [(2, i)], i, j + 1, by first | rfl | go_num, by first | rfl | go_num, by omega, by omega, Lib.hid (by rw [hx.out, RS.out]; simp), hS3.next hk3 hJ3 HH.out⟩
        case measure => simp [intOf] <;> omega
      · gi_wp2
        refine bodyPost_ret (results_none rfl _ _ _) rfl ?_
        exact ⟨⟨_, rfl⟩, .inr ⟨pre ++ [(2, i)], ⟨E.rest a b (i) (j + 1), by rw [hx.out, RS.out]; simp⟩, hJx3⟩⟩

theorem walk_stops (n : Nat) (hn : 1 ≤ n) (Ba Bb : Nat) (A1 A2 : Option Addr) (c1 c2 B : Nat) (a b : List R.G) (hna : a.length ≤ 1000) (hnb : b.length ≤ 1000) (G : World → Prop) (Fr : Nat → Nat → World → Prop)
    (hG1 : ∀ W, G W → Boxed W Ba 22 (.slice A1 a.length c1) ∧ Boxed W Bb 22 (.slice A2 b.length c2) ∧ Reads W B 3 A1 a.length (R.gcs a) ∧ Reads W B 3 A2 b.length (R.gcs b) ∧ B ≤ W.heap.size)
    (hG2 : ∀ W W', Below W.heap.size W W' → G W → G W')
    (hF1 : ∀ W W', G W → Below W.heap.size W W' → Fr W.heap.size W'.heap.size W')
    (hF2 : ∀ T H W k, Fr T H W → Fr T H (W.drewN k)) (w : World) (hGw : G w) :
    SeqOk Fence.wide n Try.prog 36 #[.pointer (some ⟨Ba, 0, none⟩), .pointer (some ⟨Bb, 0, none⟩)] E.sv (E.Kp G Fr) (E.ys a b) w := fun lam J Jx W hW hJ _ hY h0 =>
  walk36 n hn lam Ba Bb A1 A2 c1 c2 B a b hna hnb G Fr hG1 hG2 hF1 hF2 J Jx (fun s A B hs hg => hJ s A B none hs hg (by simp)) hY W (hG2 _ _ hW hGw) h0
end Go.Proofs.Yteakiielcmgkeaa
