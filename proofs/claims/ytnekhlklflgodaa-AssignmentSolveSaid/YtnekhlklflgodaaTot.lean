/-
  The walks of layer 29: Total, Same. By an AI agent.
-/
import Derived.Test.YtnekhlklflgodaaSlv
namespace Go.Proofs.Ytnekhlklflgodaa
open Go.RowKit

/-- A list of columns in which none lies outside or twice. -/
def C.okL (n : Nat) (l : List Int) : Bool := decide ((∀ x ∈ l, 0 ≤ x ∧ x < (n : Int)) ∧ l.Nodup)
def C.ent (m : List (List Int)) (l : List Int) (t : Nat) : Int := (m.getD t []).getD (l.getD t 0).toNat 0
def C.sumP (m : List (List Int)) (l : List Int) (i : Nat) : Int := ((List.range i).map (C.ent m l)).sum
theorem C.sumP_succ (m : List (List Int)) (l : List Int) (i : Nat) : C.sumP m l (i + 1) = C.sumP m l i + C.ent m l i := by
  unfold C.sumP
  rw [List.range_succ, List.map_append, List.sum_append]
  simp
/-- What Total returns. -/
def C.totV (m : List (List Int)) (l : List Int) : Int × Int := if C.chkV m ≠ 0 then (0, C.chkV m) else if l.length ≠ m.length then (0, 1) else if C.okL m.length l then (C.sumP m l l.length, 0) else (0, 1)
/-- The first i columns are all right. -/
def C.OkP (n : Nat) (l : List Int) (i : Nat) : Prop := (∀ x ∈ l.take i, 0 ≤ x ∧ x < (n : Int)) ∧ (l.take i).Nodup
theorem C.ok_step {n : Nat} {l : List Int} {i : Nat} (h : C.OkP n l i) (hi : i < l.length) (h1 : 0 ≤ l[i] ∧ l[i] < (n : Int)) (h2 : l[i] ∉ l.take i) : C.OkP n l (i + 1) := by
  unfold C.OkP
  rw [List.take_succ_eq_append_getElem hi]
  refine ⟨fun x hx => ?_, ?_⟩
  · rcases List.mem_append.1 hx with hx | hx
    · exact h.1 x hx
    · simp only [List.mem_cons, List.not_mem_nil, or_false] at hx; subst hx; exact h1
  · rw [List.nodup_append]
    refine ⟨h.2, by simp, fun a ha b hb => ?_⟩
    simp only [List.mem_cons, List.not_mem_nil, or_false] at hb
    subst hb
    exact fun e => h2 (e ▸ ha)
theorem C.ok_end {n : Nat} {l : List Int} (h : C.OkP n l l.length) : C.okL n l = true := by
  unfold C.OkP at h
  rw [List.take_length] at h
  exact decide_eq_true h
theorem C.ok_out {n : Nat} {l : List Int} {i : Nat} (hi : i < l.length) (h : ¬ (0 ≤ l[i] ∧ l[i] < (n : Int))) : C.okL n l = false := decide_eq_false (fun g => h (g.1 _ (List.getElem_mem hi)))
theorem C.ok_twice {n : Nat} {l : List Int} {i : Nat} (hi : i < l.length) (h : l[i] ∈ l.take i) : C.okL n l = false := decide_eq_false (fun g => by
  have hn := g.2
  rw [← List.take_append_drop i l] at hn
  rw [List.nodup_append] at hn
  have hd : l[i] ∈ l.drop i := by
    have e := List.drop_eq_getElem_cons hi
    rw [e]
    exact List.mem_cons_self
  exact hn.2.2 _ h l[i] hd rfl)
/-- The columns that are used. -/
def C.usd (l : List Int) (i j : Nat) : Bool := decide ((j : Int) ∈ l.take i)
theorem C.usd_step {l : List Int} {i x : Nat} (hi : i < l.length) (hx : l[i] = (x : Int)) : A.upd (C.usd l i) x true = C.usd l (i + 1) := by
  funext j
  unfold A.upd C.usd
  rw [List.take_succ_eq_append_getElem hi, hx]
  by_cases e : j = x
  · subst e; simp
  · rw [if_neg e]
    simp only [List.mem_append, List.mem_cons, List.not_mem_nil, or_false]
    rw [decide_eq_decide]
    constructor
    · exact .inl
    · rintro (h | h)
      · exact h
      · omega
/-- A row of 40 bools. -/
def C.Ur (w : World) (b : Nat) (f : Nat → Bool) : Prop := w.heap[b]? = some (.cells (C.arr 40 fun i => .bool (f i)) 48 (0, 0))
theorem C.Ur.at_ {w : World} {b : Nat} {f : Nat → Bool} {i : Nat} (h : C.Ur w b f) (hi : i < 40) : w.cell? ⟨b, i, none⟩ = some (.bool (f i)) := (C.blk_cell h _).trans (C.arr_get (fun i => .bool (f i)) hi)
theorem C.Ur.fz {w : World} {b : Nat} {f : Nat → Bool} (h : C.Ur w b f) (j : Nat) : w.frozen? ⟨b, j, none⟩ = false := C.blk_frozen h j
theorem C.Ur.set {w : World} {b : Nat} {f : Nat → Bool} {i : Nat} (h : C.Ur w b f) (hi : i < 40) (x : Bool) : C.Ur (w.setCell ⟨b, i, none⟩ (.bool x)) b (A.upd f i x) := by
  have := heap_setCell_same w b i _ 48 (.bool x) h
  rw [C.arr_set _ _ hi] at this
  rw [show A.upd (fun i => Value.bool (f i)) i (.bool x) = fun j => .bool (A.upd f i x j) from by funext j; unfold A.upd; split <;> rfl] at this
  exact this
theorem C.zero48 : ∀ w : World, (zeroValue 48).run Try.prog w = .ok (.agg (C.arr 40 fun _ => .bool false)) w := fun w => by kernel_rfl
theorem C.sum_bound {m : List (List Int)} (hq : C.Sq m) {l : List Int} (hr : ∀ t, t < l.length → 0 ≤ C.ent m l t ∧ C.ent m l t ≤ 1000000) : ∀ i, i ≤ l.length → 0 ≤ C.sumP m l i ∧ C.sumP m l i ≤ i * 1000000 := by
  intro i
  induction i with
  | zero => intro _; simp [C.sumP]
  | succ i ih =>
    intro hi
    have h1 := ih (by omega)
    have h2 := hr i (by omega)
    rw [C.sumP_succ]
    omega
theorem C.ent_range {m : List (List Int)} (hq : C.Sq m) (l : List Int) (t : Nat) : 0 ≤ C.ent m l t ∧ C.ent m l t ≤ 1000000 := by
  unfold C.ent
  generalize (l.getD t 0).toNat = k
  by_cases h1 : t < m.length
  · have e1 : m.getD t [] = m[t] := by simp [List.getD, h1]
    rw [e1]
    by_cases h2 : k < m[t].length
    · have e2 : m[t].getD k 0 = m[t][k] := by simp [List.getD, h2]
      rw [e2]
      have := hq.2.2 _ (List.getElem_mem h1) _ (List.getElem_mem h2)
      unfold A.M at this
      exact this
    · have e2 : m[t].getD k 0 = 0 := by simp [List.getD, h2]
      rw [e2]; omega
  · have e1 : m.getD t [] = [] := by simp [List.getD, h1]
    rw [e1]; simp

set_option maxRecDepth 100000 in
set_option maxHeartbeats 8000000 in
theorem Total_any (B : Nat) (Ad Al : Option Addr) (cp cl : Nat) (rs : List (Option Addr × Nat × List Int)) (l : List Int) (w : World) (h : C.Mx w B Ad rs) (hr : Reads w B 1 Al l.length (C.ns l)) (hll : l.length ≤ maxLen) (hB : B ≤ w.heap.size) :
    Calls Try.prog 13 #[.slice Ad rs.length cp, .slice Al l.length cl] w fun e w' => e = .returned (.tuple #[.int .i64 (C.totV (C.mt rs) l).1, .int .i64 (C.totV (C.mt rs) l).2]) ∧ Below w.heap.size w w' := by
  have hl : (C.mt rs).length = rs.length := by simp [C.mt]
  have CK := Lib.hid (check_any B Ad cp rs w h hB)
  have hrl := h.len
  unfold maxLen at hll hrl
  by_cases hz : C.chkV (C.mt rs) = 0
  · have hq := C.chk_sq hz
    have hn40 : rs.length ≤ 40 := by have := hq.1; omega
    rw [hz] at CK
    by_cases hlen : l.length = rs.length
    · have hlen1 : ((l.length : Int) != (rs.length : Int)) = false := by simp [hlen]
      have HT : Hid (C.totV (C.mt rs) l = if C.okL rs.length l then (C.sumP (C.mt rs) l l.length, 0) else (0, 1)) := Lib.hid (by unfold C.totV; rw [if_neg (by simp [hz]), if_neg (by simp [hlen, hl]), hl])
      have HSB := Lib.hid (C.sum_bound hq (l := l) (fun t _ => C.ent_range hq l t))
      have HEN := Lib.hid (C.ent_range hq l)
      have HRL : Hid (∀ i (hi : i < rs.length), rs[i].2.2.length = rs.length) := Lib.hid (fun i hi => by rw [← hl]; exact hq.2.1 _ (List.mem_map.2 ⟨rs[i], List.getElem_mem hi, rfl⟩))
      have HM := Lib.hid h
      have HR := Lib.hid hr
      have HLN := Lib.hid hlen
      have g1 : l.length ≤ rs.length := by omega
      have g2 : rs.length ≤ l.length := by omega
      clear h hr hz hq hl hlen
      go_enter Try.func13, Try.ntmps13
      go_wp2_with fail
      refine CK.out.mono ?_
      rintro e' w1 ⟨rfl, b1⟩
      have B1 := Lib.hid b1
      clear b1 CK
      go_wp2_with (first | (refine wpList_alloc_at rfl 48 rfl _ C.zero48 _ rfl ?_))
      obtain ⟨Ub, hUb⟩ : ∃ Ub, w1.heap.size = Ub := ⟨_, rfl⟩
      have U0 : Hid (C.Ur (w1.alloc (.cells (C.arr 40 fun _ => .bool false) 48)) Ub (C.usd l 0)) := Lib.hid (by
        rw [← hUb]
        have := C.heap_new w1 (.cells (C.arr 40 fun _ => .bool false) 48)
        unfold C.Ur
        rw [show C.usd l 0 = fun _ => false from by funext j; simp [C.usd]]
        exact this)
      have B2 : Hid (Below w.heap.size w (w1.alloc (.cells (C.arr 40 fun _ => .bool false) 48))) := Lib.hid (B1.out.alloc B1.out.size _)
      have hub : w.heap.size ≤ Ub := by rw [← hUb]; exact B1.out.size
      rw [hUb]
      clear B1 hUb
      go_loopw [8, 23] (fun v8 v23 wr => ∃ i : Nat, v23 = .int .i64 i ∧ i ≤ l.length ∧ v8 = .int .i64 (C.sumP (C.mt rs) l i) ∧ Hid (C.OkP rs.length l i) ∧ Hid (C.Ur wr Ub (C.usd l i)) ∧ Hid (Below w.heap.size w wr)) (fun _ v23 _ => l.length - (intOf v23).toNat)
      case atStart => exact ⟨0, rfl, by omega, rfl, Lib.hid ⟨by simp, by simp⟩, U0, B2⟩
      case round =>
        clear U0 B2
        obtain ⟨i, rfl, hi, rfl, hok, hu, hbl⟩ := hrel
        by_cases hlt : i < l.length
        · obtain ⟨b2, o2, rfl, hb2, h2⟩ := C.nums_at HR.out (by omega)
          have x0 := (hbl.out.cell (p := ⟨b2, o2 + i, none⟩) (Nat.lt_of_lt_of_le hb2 hB)).trans (h2 i hlt)
          have q1 : (0 : Int) ≤ (i : Int) := by omega
          have q2 : (i : Int) < (l.length : Int) := by omega
          have q2' : (i : Int) < (rs.length : Int) := by omega
          clear h2
          by_cases c1 : l[i] < 0
          · have HO := Lib.hid (C.ok_out (n := rs.length) hlt (by omega))
            have hv : Hid (C.totV (C.mt rs) l = (0, 1)) := Lib.hid (by rw [HT.out, HO.out]; rfl)
            clear hok HO
            generalize l[i] = x at *
            go_wp2_with fail
            go_ret2
            exact ⟨by rw [hv.out]; rfl, hbl.out⟩
          · by_cases c2 : l[i] < (rs.length : Int)
            · obtain ⟨x, hx⟩ : ∃ x : Nat, l[i] = x := ⟨l[i].toNat, by omega⟩
              have hxn : x < rs.length := by omega
              have xu := hu.out.at_ (i := x) (by omega)
              have fu := hu.out.fz x
              have q3 : (0 : Int) ≤ (x : Int) := by omega
              have q4 : (x : Int) < (rs.length : Int) := by omega
              have q5 : (x : Int) < 40 := by omega
              by_cases c3 : l[i] ∈ l.take i
              · have hus : C.usd l i x = true := decide_eq_true (by rw [← hx]; exact c3)
                have HO := Lib.hid (C.ok_twice (n := rs.length) hlt c3)
                have hv : Hid (C.totV (C.mt rs) l = (0, 1)) := Lib.hid (by rw [HT.out, HO.out]; rfl)
                rw [hus] at xu
                rw [hx] at x0
                clear hok HO hus c1 c2 c3 hx
                go_wp2_with fail
                go_ret2
                exact ⟨by rw [hv.out]; rfl, hbl.out⟩
              · have hus : C.usd l i x = false := decide_eq_false (by rw [← hx]; exact c3)
                have OK2 := Lib.hid (C.ok_step hok.out hlt ⟨by omega, c2⟩ c3)
                have U2 : Hid (C.Ur (World.setCell _ ⟨Ub, x, none⟩ (.bool true)) Ub (C.usd l (i + 1))) := Lib.hid (by
                  have := hu.out.set (i := x) (by omega) true
                  rw [C.usd_step hlt hx] at this
                  exact this)
                have hir : i < rs.length := by omega
                have hxr : x < rs[i].2.2.length := by rw [HRL.out i hir]; exact hxn
                have HS : Hid (C.sumP (C.mt rs) l (i + 1) = C.sumP (C.mt rs) l i + rs[i].2.2[x]) := Lib.hid (by
                  rw [C.sumP_succ]
                  congr 1
                  have e1 : l.getD i 0 = (x : Int) := by simp [List.getD, hlt, hx]
                  have e2 : (C.mt rs).getD i [] = rs[i].2.2 := by simp [C.mt, List.getD, hir]
                  unfold C.ent
                  rw [e1, e2, Int.toNat_natCast]
                  simp [List.getD, hxr])
                have hE : 0 ≤ rs[i].2.2[x] ∧ rs[i].2.2[x] ≤ 1000000 := by
                  have h1 := HEN.out i
                  have h2 := HS.out
                  rw [C.sumP_succ] at h2
                  omega
                have hS := HSB.out i hi
                obtain ⟨b1, o1, rfl, hb1, h1⟩ := HM.out.at_ (by omega)
                have y0 := (hbl.out.cell (p := ⟨b1, o1 + i, none⟩) (Nat.lt_of_lt_of_le hb1 hB)).trans (h1 i hir)
                obtain ⟨b3, o3, hA, hb3, h3⟩ := C.nums_at (HM.out.each rs[i] (List.getElem_mem hir)).1 (by omega)
                have z0 := (hbl.out.cell (p := ⟨b3, o3 + x, none⟩) (Nat.lt_of_lt_of_le hb3 hB)).trans (h3 x hxr)
                rw [hA] at y0
                rw [hus] at xu
                rw [hx] at x0
                have B5 : Hid (Below w.heap.size w (World.setCell _ ⟨Ub, x, none⟩ (.bool true))) := Lib.hid (hbl.out.setCell hub _)
                have q6 : (x : Int) < (rs[i].2.2.length : Int) := by omega
                have hn1 : b1 ≠ Ub := by omega
                have hn3 : b3 ≠ Ub := by omega
                clear hok hu hbl hus c1 c2 c3 hx h1 h3 hA
                generalize rs[i].2.2[x] = en at *
                generalize rs[i].2.2.length = nl at *
                generalize rs[i].2.1 = cr at *
                generalize C.sumP (C.mt rs) l i = sm at *
                have hi40 : (i : Int) ≤ 40 := by omega
                have u1 : IntKind.i64.wrap (sm + en) = sm + en := by simp [IntKind.wrap, IntKind.bits, IntKind.signed]; omega
                go_wp2
                go_roundw
                case rel => exact ⟨i + 1, by go_num, hlt, by rw [HS.out], OK2, U2, B5⟩
                case measure => simp [intOf] <;> omega
            · have HO := Lib.hid (C.ok_out (n := rs.length) hlt (by omega))
              have hv : Hid (C.totV (C.mt rs) l = (0, 1)) := Lib.hid (by rw [HT.out, HO.out]; rfl)
              clear hok HO
              generalize l[i] = x at *
              go_wp2_with fail
              go_ret2
              exact ⟨by rw [hv.out]; rfl, hbl.out⟩
        · have hie : i = l.length := by omega
          have hv : Hid (C.totV (C.mt rs) l = (C.sumP (C.mt rs) l i, 0)) := Lib.hid (by rw [HT.out, C.ok_end (hie ▸ hok.out), hie]; rfl)
          clear hok hie
          go_wp2_with fail
          go_ret2
          exact ⟨by rw [hv.out]; rfl, hbl.out⟩
    · have hlen1 : ((l.length : Int) != (rs.length : Int)) = true := bne_iff_ne.2 (by omega)
      have hv : Hid (C.totV (C.mt rs) l = (0, 1)) := Lib.hid (by unfold C.totV; rw [if_neg (by simp [hz]), if_pos (by rw [hl]; exact hlen)])
      clear h hr hz hq hl
      go_enter Try.func13, Try.ntmps13
      go_wp2_with fail
      refine CK.out.mono ?_
      rintro e' w1 ⟨rfl, b1⟩
      go_wp2_with fail
      go_ret2
      exact ⟨by rw [hv.out]; rfl, b1⟩
  · have hzn : (C.chkV (C.mt rs) != 0) = true := bne_iff_ne.2 hz
    have hv : Hid (C.totV (C.mt rs) l = (0, C.chkV (C.mt rs))) := Lib.hid (by unfold C.totV; rw [if_pos hz])
    clear h hr hz hl
    generalize C.chkV (C.mt rs) = z at *
    go_enter Try.func13, Try.ntmps13
    go_wp2_with fail
    refine CK.out.mono ?_
    rintro e' w1 ⟨rfl, b1⟩
    go_wp2_with fail
    go_ret2
    exact ⟨by rw [hv.out]; rfl, b1⟩

set_option maxRecDepth 10000 in
set_option maxHeartbeats 4000000 in
theorem sameints_any (B : Nat) (A1 A2 : Option Addr) (c1 c2 : Nat) (a b : List Int) (w : World) (ha : Reads w B 1 A1 a.length (C.ns a)) (hb : Reads w B 1 A2 b.length (C.ns b)) (hla : a.length ≤ maxLen) (hlb : b.length ≤ maxLen) :
    Calls Try.prog 15 #[.slice A1 a.length c1, .slice A2 b.length c2] w fun e w' => e = .returned (.bool (decide (a = b))) ∧ ∃ n, w' = w.drewN n := by
  have HA := Lib.hid ha
  have HB := Lib.hid hb
  unfold maxLen at hla hlb
  clear ha hb
  by_cases hl : a.length = b.length
  · have HL := Lib.hid hl
    have hl1 : ((a.length : Int) != (b.length : Int)) = false := by simp [hl]
    have g1 : a.length ≤ b.length := by omega
    have g2 : b.length ≤ a.length := by omega
    clear hl
    go_enter Try.func15, Try.ntmps15
    go_wp2
    go_loopw [5] (fun v5 wr => ∃ i m : Nat, v5 = .int .i64 i ∧ i ≤ a.length ∧ Hid (∀ j (_ : j < i) (h1 : j < a.length) (h2 : j < b.length), a[j] = b[j]) ∧ wr = w.drewN m) (fun v5 _ => a.length - (intOf v5).toNat)
    case atStart => exact ⟨0, 0, rfl, Nat.zero_le _, Lib.hid (fun j h => absurd h (by omega)), rfl⟩
    case round =>
      obtain ⟨i, m, rfl, hi, hpre, rfl⟩ := hrel
      by_cases hlt : i < a.length
      · obtain ⟨b1, o1, rfl, _, h1⟩ := C.nums_at HA.out (by omega)
        obtain ⟨b2, o2, rfl, _, h2⟩ := C.nums_at HB.out (by omega)
        have hlb : i < b.length := by omega
        have x0 := h1 i hlt
        have y0 := h2 i hlb
        have q1 : (0 : Int) ≤ (i : Int) := by omega
        have q2 : (i : Int) < (a.length : Int) := by omega
        have q3 : (i : Int) < (b.length : Int) := by omega
        clear h1 h2
        by_cases he : a[i] = b[i]
        · have hpre2 : Hid (∀ j (_ : j < i + 1) (h1 : j < a.length) (h2 : j < b.length), a[j] = b[j]) := Lib.hid (fun j hj h1 h2 => by
            by_cases e : j = i
            · subst e; exact he
            · exact hpre.out j (by omega) h1 h2)
          rw [he] at x0
          have hne : (b[i] != b[i]) = false := by simp
          clear he hpre
          generalize b[i] = y at *
          go_wp2_with fail
          go_quiet (fail)
          go_wp2
          go_roundw
          case rel => exact ⟨i + 1, m + nq, by go_num, hlt, hpre2, by simp⟩
          case measure => simp [intOf] <;> omega
        · have HE : Hid (decide (a = b) = false) := Lib.hid (decide_eq_false (fun h => he (by subst h; rfl)))
          have hne : (a[i] != b[i]) = true := bne_iff_ne.2 he
          clear he hpre
          generalize b[i] = y at *
          generalize a[i] = x at *
          go_wp2_with fail
          go_quiet (fail)
          go_wp2
          go_ret
          exact ⟨ret_bool HE.out.symm, m + nq, by simp⟩
      · obtain rfl : i = a.length := by omega
        have HE : Hid (decide (a = b) = true) := Lib.hid (decide_eq_true (List.ext_getElem HL.out (fun j h1 h2 => hpre.out j h1 h1 h2)))
        go_wp2
        go_ret
        exact ⟨ret_bool HE.out.symm, m, rfl⟩
  · have HE : Hid (decide (a = b) = false) := Lib.hid (decide_eq_false (fun h => hl (by rw [h])))
    have hl1 : ((a.length : Int) != (b.length : Int)) = true := bne_iff_ne.2 (by omega)
    go_enter Try.func15, Try.ntmps15
    go_wp2
    go_ret
    exact ⟨ret_bool HE.out.symm, 0, rfl⟩
end Go.Proofs.Ytnekhlklflgodaa
