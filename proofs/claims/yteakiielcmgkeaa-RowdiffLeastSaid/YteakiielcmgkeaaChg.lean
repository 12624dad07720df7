/-
  The walks of layer 17: changes in memory; their cost. By an AI agent.
-/
import Derived.Test.YteakiielcmgkeaaSg
import Derived.Test.YteakiielcmgkeaaPlain
import Derived.Lib.MinMax
namespace Go.Proofs.Yteakiielcmgkeaa
open Go.RowKit

namespace R
/-- A change. -/
structure Cx where
  kind : Int
  row : Int
  col : Int
  count : Int
  to : Int
  gl : List G
deriving DecidableEq
/-- A change with the slice of its glyphs. -/
structure Cs where
  c : Cx
  sl : Value
def Cs.cells (x : Cs) : List Value := [.int .i64 x.c.kind, .int .i64 x.c.row, .int .i64 x.c.col, .int .i64 x.c.count, .int .i64 x.c.to, x.sl]
theorem Cs.cells_len (x : Cs) : x.cells.length = 6 := rfl
def Cx.of (row : Int) (c : Ch G) : Cx := ⟨3, row, c.col, c.count, 0, c.gl⟩
def ccs (l : List Cs) : List Value := l.flatMap Cs.cells
/-- Changes in memory. -/
structure Chs (w : World) (B : Nat) (A : Option Addr) (xs : List Cs) : Prop where
  row : Reads w B 6 A xs.length (ccs xs)
  gl : ∀ x ∈ xs, ∃ A' c, x.sl = .slice A' x.c.gl.length c ∧ Reads w B 3 A' x.c.gl.length (gcs x.c.gl) ∧ x.c.gl.length ≤ c
theorem Chs.below {w w' : World} {B B₁ : Nat} {A : Option Addr} {xs : List Cs} (h : Chs w B A xs) (hb : Below B₁ w w') (hB : B ≤ B₁) : Chs w' B A xs :=
  ⟨h.row.below hb hB, fun x hx => let ⟨A', c, h1, h2, h3⟩ := h.gl x hx; ⟨A', c, h1, h2.below hb hB, h3⟩⟩
theorem Chs.drewN {w : World} {B : Nat} {A : Option Addr} {xs : List Cs} (h : Chs w B A xs) (n : Nat) : Chs (w.drewN n) B A xs :=
  ⟨h.row.drewN n, fun x hx => let ⟨A', c, h1, h2, h3⟩ := h.gl x hx; ⟨A', c, h1, h2.drewN n, h3⟩⟩
theorem Chs.more {w : World} {B B' : Nat} {A : Option Addr} {xs : List Cs} (h : Chs w B A xs) (hB : B ≤ B') : Chs w B' A xs :=
  ⟨h.row.more hB, fun x hx => let ⟨A', c, h1, h2, h3⟩ := h.gl x hx; ⟨A', c, h1, h2.more hB, h3⟩⟩
/-- The cells of a change at a place. -/
structure CAt (w : World) (b o : Nat) (x : Cs) : Prop where
  c0 : w.cell? ⟨b, o, none⟩ = some (.int .i64 x.c.kind)
  c1 : w.cell? ⟨b, o + 1, none⟩ = some (.int .i64 x.c.row)
  c2 : w.cell? ⟨b, o + 2, none⟩ = some (.int .i64 x.c.col)
  c3 : w.cell? ⟨b, o + 3, none⟩ = some (.int .i64 x.c.count)
  c4 : w.cell? ⟨b, o + 4, none⟩ = some (.int .i64 x.c.to)
  c5 : w.cell? ⟨b, o + 5, none⟩ = some x.sl
theorem Chs.at_ {w : World} {B : Nat} {A : Option Addr} {xs : List Cs} (h : Chs w B A xs) (hn : 0 < xs.length) :
    ∃ b off, A = some ⟨b, off, none⟩ ∧ b < B ∧ ∀ k (hk : k < xs.length), CAt w b (off + k * 6) xs[k] := by
  obtain ⟨b, off, e, hb, hc⟩ := h.row.flat hn (by decide)
  refine ⟨b, off, e, hb, fun k hk => ?_⟩
  have hg : ∀ j, j < 6 → (ccs xs)[k * 6 + j]? = (xs[k].cells)[j]? := fun j hj => by
    unfold ccs
    rw [flat_get Cs.cells 6 xs Cs.cells_len k j hj, List.getElem?_eq_getElem hk]
    rfl
  exact ⟨hc (k * 6 + 0) _ (hg 0 (by decide)), hc (k * 6 + 1) _ (hg 1 (by decide)), hc (k * 6 + 2) _ (hg 2 (by decide)), hc (k * 6 + 3) _ (hg 3 (by decide)), hc (k * 6 + 4) _ (hg 4 (by decide)), hc (k * 6 + 5) _ (hg 5 (by decide))⟩

def priceX (c : Cx) : Int := 2 + max 0 (min c.count 1000) + c.gl.length
def costX (l : List Cs) : Int := (l.map fun x => priceX x.c).sum
theorem costX_bd (l : List Cs) (h : ∀ x ∈ l, x.c.gl.length ≤ 100000) : 0 ≤ costX l ∧ costX l ≤ l.length * 200000 := by
  induction l with
  | nil => exact ⟨Int.le_refl _, Int.le_refl _⟩
  | cons x l ih =>
    have i := ih (fun y hy => h y (by simp [hy]))
    have p := h x (by simp)
    simp only [costX, List.map_cons, List.sum_cons, List.length_cons, priceX] at i ⊢
    omega
theorem costX_take (l : List Cs) {k : Nat} (hk : k < l.length) : costX (l.take (k + 1)) = costX (l.take k) + priceX l[k].c := by
  unfold costX
  rw [List.take_succ_eq_append_getElem hk, List.map_append, List.sum_append]
  show _ + (priceX l[k].c + 0) = _
  rw [Int.add_zero]
end R

set_option maxRecDepth 100000 in
set_option maxHeartbeats 8000000 in
theorem cost_any (A : Option Addr) (c B : Nat) (xs : List R.Cs) (w : World) (hr : R.Chs w B A xs) (hB : B ≤ w.heap.size) (hl : xs.length ≤ 1000) (hg : ∀ x ∈ xs, x.c.gl.length ≤ 100000) :
    Calls Try.prog 21 #[.slice A xs.length c] w fun e w' => e = .returned (.int .i64 (R.costX xs)) ∧ Below w.heap.size w w' := by
  have HR := Lib.hid hr
  have BD := Lib.hid (fun k => R.costX_bd (xs.take k) (fun x hx => hg x (List.mem_of_mem_take hx)))
  have HG := Lib.hid hg
  clear hr hg
  go_enter Try.func21, Try.ntmps21
  go_wp2_with fail
  go_loopw [3, 8] (fun v3 v8 wr => ∃ k : Nat, k ≤ xs.length ∧ v8 = .int .i64 k ∧ v3 = .int .i64 (R.costX (xs.take k)) ∧ Hid (Below w.heap.size w wr)) (fun _ v _ => xs.length - (intOf v).toNat)
  case atStart => exact ⟨0, Nat.zero_le _, rfl, rfl, Lib.hid (Below.refl _ _)⟩
  case round =>
    obtain ⟨k, hk, rfl, rfl, hbl⟩ := hrel
    by_cases hlt : k < xs.length
    · obtain ⟨b, off, rfl, hbB, hcl⟩ := (HR.out.below hbl.out hB).at_ (by omega)
      obtain ⟨c0, c1, c2, c3, c4, c5⟩ := hcl k hlt
      obtain ⟨A', c', s1, _, _⟩ := HR.out.gl xs[k] (List.getElem_mem hlt)
      rw [s1] at c5
      have bd := BD.out k
      have hgl := HG.out _ (List.getElem_mem hlt)
      have hlk : (xs.take k).length ≤ 1000 := by rw [List.length_take]; omega
      have CT := Lib.hid (R.costX_take xs hlt)
      have q1 : (0 : Int) ≤ (k : Int) := by omega
      have q2 : (k : Int) < (xs.length : Int) := by omega
      have PX : Hid (R.priceX xs[k].c = 2 + max 0 (min xs[k].c.count 1000) + xs[k].c.gl.length) := Lib.hid rfl
      clear hcl s1
      generalize R.costX (xs.take k) = cx at *
      generalize R.priceX xs[k].c = px at *
      generalize xs[k].c.kind = z0 at *
      generalize xs[k].c.row = z1 at *
      generalize xs[k].c.col = z2 at *
      generalize xs[k].c.count = cnt at *
      generalize xs[k].c.to = z4 at *
      generalize xs[k].c.gl.length = gl at *
      have hm : 0 ≤ max 0 (min cnt 1000) ∧ max 0 (min cnt 1000) ≤ 1000 := by omega
      go_wp2_with fail
      refine ⟨⟨k + 1, by omega, by go_num, by rw [CT.out, PX.out], Lib.hid (hbl.out.alloc hbl.out.size _)⟩, by simp [intOf]; omega⟩
    · obtain rfl : k = xs.length := by omega
      have q2 : ((xs.length : Int) < (xs.length : Int)) = False := eq_false (by omega)
      go_wp2_with fail
      go_ret
      exact ⟨by simp [List.take_length], hbl.out⟩
set_option maxRecDepth 100000 in
set_option maxHeartbeats 8000000 in
theorem refcost_any (A : Option Addr) (c B : Nat) (xs : List R.Cs) (w : World) (hr : R.Chs w B A xs) (hB : B ≤ w.heap.size) (hl : xs.length ≤ 1000) (hg : ∀ x ∈ xs, x.c.gl.length ≤ 100000) :
    Calls Try.prog 24 #[.slice A xs.length c] w fun e w' => e = .returned (.int .i64 (R.costX xs)) ∧ w = w' := by
  have HR := Lib.hid hr
  have BD := Lib.hid (fun k => R.costX_bd (xs.take k) (fun x hx => hg x (List.mem_of_mem_take hx)))
  have HG := Lib.hid hg
  clear hr hg
  go_enter Try.func24, Try.ntmps24
  go_wp2_with fail
  go_loop [3, 4] (fun v3 v8 => ∃ k : Nat, k ≤ xs.length ∧ v8 = .int .i64 k ∧ v3 = .int .i64 (R.costX (xs.take k))) (fun _ v => xs.length - (intOf v).toNat)
  case atStart => exact ⟨0, Nat.zero_le _, rfl, rfl⟩
  case round =>
    obtain ⟨k, hk, rfl, rfl⟩ := hrel
    by_cases hlt : k < xs.length
    · obtain ⟨b, off, rfl, hbB, hcl⟩ := HR.out.at_ (by omega)
      obtain ⟨c0, c1, c2, c3, c4, c5⟩ := hcl k hlt
      obtain ⟨A', c', s1, _, _⟩ := HR.out.gl xs[k] (List.getElem_mem hlt)
      rw [s1] at c5
      have bd := BD.out k
      have hgl := HG.out _ (List.getElem_mem hlt)
      have hlk : (xs.take k).length ≤ 1000 := by rw [List.length_take]; omega
      have CT := Lib.hid (R.costX_take xs hlt)
      have q1 : (0 : Int) ≤ (k : Int) := by omega
      have q2 : (k : Int) < (xs.length : Int) := by omega
      have PX : Hid (R.priceX xs[k].c = 2 + max 0 (min xs[k].c.count 1000) + xs[k].c.gl.length) := Lib.hid rfl
      clear hcl s1
      generalize R.costX (xs.take k) = cx at *
      generalize R.priceX xs[k].c = px at *
      generalize xs[k].c.kind = z0 at *
      generalize xs[k].c.row = z1 at *
      generalize xs[k].c.col = z2 at *
      generalize xs[k].c.count = cnt at *
      generalize xs[k].c.to = z4 at *
      generalize xs[k].c.gl.length = gl at *
      by_cases h0 : cnt < 0
      · go_wp2_with fail
        refine ⟨⟨k + 1, by omega, by go_num, ?_⟩, by simp [intOf]; omega⟩
        rw [CT.out, PX.out]; congr 1; omega
      · by_cases h1 : 1000 < cnt
        · go_wp2_with fail
          refine ⟨⟨k + 1, by omega, by go_num, ?_⟩, by simp [intOf]; omega⟩
          rw [CT.out, PX.out]; congr 1; omega
        · go_wp2_with fail
          refine ⟨⟨k + 1, by omega, by go_num, ?_⟩, by simp [intOf]; omega⟩
          rw [CT.out, PX.out]; congr 1; omega
    · obtain rfl : k = xs.length := by omega
      have q2 : ((xs.length : Int) < (xs.length : Int)) = False := eq_false (by omega)
      go_wp2_with fail
      go_ret
      exact ⟨by simp [List.take_length], rfl⟩
end Go.Proofs.Yteakiielcmgkeaa
