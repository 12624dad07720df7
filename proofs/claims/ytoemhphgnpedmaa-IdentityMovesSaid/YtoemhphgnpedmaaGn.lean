/-
  The walks of layer 30: the numbers that are gone. By an AI agent.
-/
import Derived.Test.YtoemhphgnpedmaaUn
import Derived.Test.YtoemhphgnpedmaaAppend
import Derived.Maps.Own
import Derived.Maps.OwnOps
import Derived.Maps.Views
import Derived.Deep.Onto
namespace Go.Proofs.Ytoemhphgnpedmaa
open Go.RowKit

set_option maxRecDepth 10000 in
set_option maxHeartbeats 4000000 in
theorem sameints_any (B : Nat) (A1 A2 : Option Addr) (c1 c2 : Nat) (a b : List Int) (w : World) (ha : Reads w B 1 A1 a.length (C.ns a)) (hb : Reads w B 1 A2 b.length (C.ns b)) (hla : a.length ≤ maxLen) (hlb : b.length ≤ maxLen) :
    Calls Try.prog 23 #[.slice A1 a.length c1, .slice A2 b.length c2] w fun e w' => e = .returned (.bool (decide (a = b))) ∧ ∃ n, w' = w.drewN n := by
  have HA := Lib.hid ha
  have HB := Lib.hid hb
  unfold maxLen at hla hlb
  clear ha hb
  by_cases hl : a.length = b.length
  · have HL := Lib.hid hl
    have hl1 : ((a.length : Int) != (b.length : Int)) = false := by simp [hl]
    have g1 : a.length ≤ b.length := by omega
    have g2 : b.length ≤ a.length := by omega
    clear hl
    go_enter Try.func23, Try.ntmps23
    go_wp2
    go_loopw [5] (fun v5 wr => ∃ i m : Nat, v5 = .int .i64 i ∧ i ≤ a.length ∧ Hid (∀ j (_ : j < i) (h1 : j < a.length) (h2 : j < b.length), a[j] = b[j]) ∧ wr = w.drewN m) (fun v5 _ => a.length - (intOf v5).toNat)
    case atStart => exact ⟨0, 0, rfl, Nat.zero_le _, Lib.hid (fun j h => absurd h (by omega)), rfl⟩
    case round =>
      obtain ⟨i, m, rfl, hi, hpre, rfl⟩ := hrel
      by_cases hlt : i < a.length
      · obtain ⟨b1, o1, rfl, _, h1⟩ := C.nums_at HA.out (by omega)
        obtain ⟨b2, o2, rfl, _, h2⟩ := C.nums_at HB.out (by omega)
        have hlb : i < b.length := by omega
        have x0 := h1 i hlt
        have y0 := h2 i hlb
        have q1 : (0 : Int) ≤ (i : Int) := by omega
        have q2 : (i : Int) < (a.length : Int) := by omega
        have q3 : (i : Int) < (b.length : Int) := by omega
        clear h1 h2
        by_cases he : a[i] = b[i]
        · have hpre2 : Hid (∀ j (_ : j < i + 1) (h1 : j < a.length) (h2 : j < b.length), a[j] = b[j]) := Lib.hid (fun j hj h1 h2 => by
            by_cases e : j = i
            · subst e; exact he
            · exact hpre.out j (by omega) h1 h2)
          rw [he] at x0
          have hne : (b[i] != b[i]) = false := by simp
          clear he hpre
          generalize b[i] = y at *
          go_wp2_with fail
          go_quiet (fail)
          go_wp2
          go_roundw
          case rel => exact ⟨i + 1, m + nq, by go_num, hlt, hpre2, by simp⟩
          case measure => simp [intOf] <;> omega
        · have HE : Hid (decide (a = b) = false) := Lib.hid (decide_eq_false (fun h => he (by subst h; rfl)))
          have hne : (a[i] != b[i]) = true := bne_iff_ne.2 he
          clear he hpre
          generalize b[i] = y at *
          generalize a[i] = x at *
          go_wp2_with fail
          go_quiet (fail)
          go_wp2
          go_ret
          exact ⟨ret_bool HE.out.symm, m + nq, by simp⟩
      · obtain rfl : i = a.length := by omega
        have HE : Hid (decide (a = b) = true) := Lib.hid (decide_eq_true (List.ext_getElem HL.out (fun j h1 h2 => hpre.out j h1 h1 h2)))
        go_wp2
        go_ret
        exact ⟨ret_bool HE.out.symm, m, rfl⟩
  · have HE : Hid (decide (a = b) = false) := Lib.hid (decide_eq_false (fun h => hl (by rw [h])))
    have hl1 : ((a.length : Int) != (b.length : Int)) = true := bne_iff_ne.2 (by omega)
    go_enter Try.func23, Try.ntmps23
    go_wp2
    go_ret
    exact ⟨ret_bool HE.out.symm, 0, rfl⟩

/-! A set of numbers in memory. -/
def I.USet (w : World) (b n : Nat) (S : Int → Bool) : Prop := ∃ D : DataW Unit, w.ownsMap Try.prog 3 (plainElem Try.prog 4) b n D ∧ Maps.IsMap D ∧ ∀ x, (Lit.int .i64 x).wf = true → D.atKey (.int .i64 x) (.lit (.bool false)) = .lit (.bool (S x))
theorem I.law3 : Maps.Keyed Try.prog 3 := Maps.int_keyed Try.underlying3
theorem I.zero4 (w : World) : (zeroValue 4).run Try.prog w = .ok (.bool false) w := by kernel_rfl
theorem I.plainElem_bool_inv {v : Value} {z : DataW Unit × List MemPlace} (h : plainElem Try.prog 4 v = some z) : ∃ x, v = .bool x ∧ z = (.lit (.bool x), []) := by
  unfold plainElem at h
  rw [Try.underlying4] at h
  cases v <;> first | (cases h; exact ⟨_, rfl, rfl⟩) | (cases h; done)
namespace I.USet
variable {w : World} {b n : Nat} {S : Int → Bool}
theorem made (w : World) : I.USet (w.alloc (.map #[] 0)) w.heap.size 0 fun _ => false :=
  ⟨_, World.ownsMap_made _ _ _ _, Maps.isMap_empty, fun _ _ => rfl⟩
theorem lt (h : I.USet w b n S) : b < w.heap.size := let ⟨_, h1, _⟩ := h; h1.lt
theorem alloc (h : I.USet w b n S) (o : Obj) : I.USet (w.alloc o) b n S := let ⟨D, h1, h2⟩ := h; ⟨D, h1.alloc o, h2⟩
theorem drew (h : I.USet w b n S) : I.USet w.drew b n S := h
theorem kept (h : I.USet w b n S) {w' : World} {row : Option Nat} (hg : w.grownBy w' row) (hne : some b ≠ row) : I.USet w' b n S := let ⟨D, h1, h2⟩ := h; ⟨D, h1.kept hg hne, h2⟩
theorem look (h : I.USet w b n S) {x : Int} (hw : (Lit.int .i64 x).wf = true) : (Instr.lookup 47 (.map (some b)) (.int .i64 x) false).run Try.prog w = .ok (.bool (S x)) w := by
  obtain ⟨D, h1, _, h3⟩ := h
  obtain ⟨v, ps, hrun, hv⟩ := h1.lookup I.law3 Try.underlying47 (I.zero4 w) (plainElem_bool Try.underlying4 false) (Maps.keyOf_int_mk Try.underlying3 hw)
  obtain ⟨y, rfl, hz⟩ := I.plainElem_bool_inv hv
  rw [h3 x hw] at hz
  simp only [Prod.mk.injEq, DataW.lit.injEq, Lit.bool.injEq] at hz
  rw [hrun, hz.1]
theorem update (h : I.USet w b n S) (hn : n < maxLen) {x : Int} (hw : (Lit.int .i64 x).wf = true) : ∃ w', (Instr.mapUpdate 47 (.map (some b)) (.int .i64 x) (.bool true)).run Try.prog w = .ok () w' ∧ I.USet w' b (n + 1) (fun y => S y || y == x) ∧ w.grownBy w' (some b) := by
  obtain ⟨D, h1, h2, h3⟩ := h
  obtain ⟨w', hrun, r1, r2⟩ := h1.update I.law3 Try.underlying47 hn (Maps.keyOf_int_mk Try.underlying3 hw) (plainElem_bool Try.underlying4 true)
  refine ⟨w', hrun, ⟨_, r1, h2.put _ _, fun y hy => ?_⟩, r2⟩
  by_cases e : y = x
  · subst e
    rw [Maps.atKey_put_same h2 (by trivial)]
    simp
  · rw [Maps.atKey_put_other (fun h => e (by injection h)), h3 y hy]
    simp [e]
end I.USet
theorem wpList_mapUpdate_uset (w : World) {ops : Array Oper} {rest : List Oper} {o : Oper} {a : Act} {Q : Exit → Act → World → Prop} (hg : o.guard = none) (m x v : Operand) (hop : o.op = Op.mapUpdate 47 m x v)
    (b n : Nat) (S : Int → Bool) (hm : a.eval m = .map (some b)) (hown : I.USet w b n S) (hn : n < maxLen) (key : Int) (hx : a.eval x = .int .i64 key) (hv : a.eval v = .bool true) (hw : (Lit.int .i64 key).wf = true)
    (hK : ∀ w', I.USet w' b (n + 1) (fun y => S y || y == key) → w.grownBy w' (some b) → wpList Try.prog ops Q rest (a.put o.dst undef) w') : wpList Try.prog ops Q (o :: rest) a w := by
  refine wpList_plain hg fun K' hK' => ?_
  obtain ⟨w', hrun, r1, r2⟩ := hown.update hn hw
  unfold Oper.wp
  simp [execOp, hop, hm, hx, hv, hrun, Result.andThen]
  exact hK' _ _ (hK w' r1 r2)

/-! The numbers that are gone. -/
def I.used (nx od : List I.Rg) (k : Nat) (x : Int) : Bool := I.has nx x || I.has (od.take k) x
def I.goneL (nx od : List I.Rg) : Nat → List Int
  | 0 => []
  | k + 1 => I.goneL nx od k ++ if I.used nx od k (od.getD k default).id = true then [] else [(od.getD k default).id]
theorem I.goneL_le (nx od : List I.Rg) : ∀ k, (I.goneL nx od k).length ≤ k
  | 0 => Nat.le_refl _
  | k + 1 => by have := I.goneL_le nx od k; simp only [I.goneL, List.length_append]; split <;> simp <;> omega
theorem I.has_take (l : List I.Rg) (k : Nat) (hk : k < l.length) (x : Int) : I.has (l.take (k + 1)) x = (I.has (l.take k) x || x == (l.getD k default).id) := by
  unfold I.has
  rw [List.take_succ_eq_append_getElem hk, List.any_append]
  have : l.getD k default = l[k] := by simp [List.getD, hk]
  rw [this]
  simp only [List.any_cons, List.any_nil, Bool.or_false]
  rw [Bool.beq_comm]
theorem I.wf_id {l : List I.Rg} (h : ∀ r ∈ l, I.Num r) {k : Nat} (hk : k < l.length) : (Lit.int .i64 (l.getD k default).id).wf = true := by
  have := (h _ (I.getD_mem hk)).id
  generalize (l.getD k default).id = x at *
  simp [Lit.wf, IntKind.min, IntKind.max, IntKind.signed, IntKind.bits]
  omega
def I.NsOut (l : List Int) (w w' : World) (e : Ending) : Prop := ∃ v, e = .returned v ∧ w'.ownsRow w.heap.size 3 1 v l.length (C.ns l) ∧ Below w.heap.size w w'

theorem I.gone_step {wr w1 : World} {N n : Nat} {v : Value} {xs : List Value} {r : I.Rg} (hg : (wr.alloc (.cells #[.int .i64 r.kind, .int .i64 r.id, .int .i64 r.parent, .int .i64 r.top, .int .i64 r.left, .int .i64 r.bottom, .int .i64 r.right, .string r.label] 27)).grownBy w1 (some N)) (hl : N < wr.heap.size) (h : wr.ownsRow (N + 1) 3 1 v n xs) :
    w1.cell? ⟨wr.heap.size, 1, none⟩ = some (.int .i64 r.id) ∧ (w1.alloc (.cells #[.int .i64 r.id] 3)).ownsRow (N + 1) 3 1 v n xs ∧ wr.heap.size + 1 ≤ w1.heap.size := by
  refine ⟨?_, ((h.alloc _).kept hg (Or.inr fun e => by have := (h.lt _ e).1; omega)).alloc _, by have := hg.size; simp at this; omega⟩
  have e := World.cell?_of_block (a := ⟨wr.heap.size, 1, none⟩) (hg.block wr.heap.size (by simp) (fun e => by injection e; omega))
  rw [e, World.cell?_alloc_new]
  rfl

set_option maxRecDepth 100000 in
set_option maxHeartbeats 8000000 in
theorem gone_any (Ao An : Option Addr) (co cn B : Nat) (od nx : List I.Rg) (w : World) (hro : Reads w B 8 Ao od.length (I.rcs od)) (hrn : Reads w B 8 An nx.length (I.rcs nx)) (hB : B ≤ w.heap.size) (hno : ∀ r ∈ od, I.Num r) (hnn : ∀ r ∈ nx, I.Num r) (hlo : od.length ≤ 100000) (hln : nx.length ≤ 100000) :
    Calls Try.prog 18 #[.slice Ao od.length co, .slice An nx.length cn] w fun e w' => I.NsOut (I.goneL nx od od.length) w w' e := by
  have hmm := @run_makeMap Try.prog
  have HRO := Lib.hid hro
  have HRN := Lib.hid hrn
  have HNO := Lib.hid (fun k (hk : k < od.length) => I.wf_id hno hk)
  have HNN := Lib.hid (fun k (hk : k < nx.length) => I.wf_id hnn hk)
  obtain ⟨i0, hi, hz0, hz1, hz2⟩ := info_parts infoInt
  have U0 := Lib.hid (I.USet.made w)
  have B0 := Lib.hid ((Below.refl w.heap.size w).alloc (Nat.le_refl _) (.map #[] 0))
  clear hro hrn hno hnn
  go_enter Try.func18, Try.ntmps18
  go_wp2_with fail
  go_loopw [14] (fun i wr => ∃ k : Nat, k ≤ nx.length ∧ i = .int .i64 k ∧ Hid (I.USet wr w.heap.size k (I.has (nx.take k))) ∧ Hid (Below w.heap.size w wr)) (fun i _ => nx.length - (intOf i).toNat)
  case atStart => exact ⟨0, Nat.zero_le _, rfl, U0, B0⟩
  case round =>
    clear U0 B0
    obtain ⟨k, hk, rfl, hus, hbl⟩ := hrel
    by_cases hlt : k < nx.length
    · obtain ⟨bn, on, rfl, hbn, h1⟩ := (HRN.out.below hbl.out hB).rg (by omega)
      have a1 := h1 k hlt
      have wf := HNN.out k hlt
      have ht := Lib.hid (fun x => I.has_take nx k hlt x)
      generalize nx.getD k default = r at *
      obtain ⟨rk, ri, rp, rt, rl, rb, rr, rlb⟩ := r
      obtain ⟨x0, x1, x2, x3, x4, x5, x6, x7⟩ := a1
      simp only at x0 x1 x2 x3 x4 x5 x6 x7 wf
      have q1 : (0 : Int) ≤ (k : Int) := by omega
      have q2 : (k : Int) < (nx.length : Int) := by omega
      clear h1
      go_wp2_with (at_mapUpdate; refine wpList_mapUpdate_uset _ rfl _ _ _ rfl w.heap.size k _ rfl (hus.out.alloc _) (by unfold maxLen; omega) ri rfl rfl wf ?_; intro w1 us1 hg1)
      refine ⟨⟨k + 1, by omega, by go_num, Lib.hid ?_, Lib.hid ((hbl.out.alloc hbl.out.size _).grown hg1 (by have := hbl.out.size; simp; omega) (fun b e => by cases e; exact Nat.le_refl _))⟩, by simp [intOf]; omega⟩
      rw [show I.has (nx.take (k + 1)) = fun y => I.has (nx.take k) y || y == ri from funext ht.out]
      exact us1
    · obtain rfl : k = nx.length := by omega
      have q2 : ((nx.length : Int) < (nx.length : Int)) = False := eq_false (by omega)
      have U1 : Hid (I.USet wr w.heap.size (nx.length + 0) (I.used nx od 0)) := Lib.hid (by
        have h := hus.out
        rw [List.take_length] at h
        rw [show I.used nx od 0 = I.has nx from funext fun x => by simp [I.used, I.has]]
        exact h)
      clear hus
      go_wp2_with fail
      go_loopw [8, 24] (fun v i wr => ∃ k : Nat, k ≤ od.length ∧ i = .int .i64 k ∧ Hid (wr.ownsRow (w.heap.size + 1) 3 1 v (I.goneL nx od k).length (C.ns (I.goneL nx od k))) ∧ Hid (I.USet wr w.heap.size (nx.length + k) (I.used nx od k)) ∧ Hid (Below w.heap.size w wr)) (fun _ i _ => od.length - (intOf i).toNat)
      case atStart => exact ⟨0, Nat.zero_le _, rfl, Lib.hid (World.ownsRow_nil _ _ _ _), U1, hbl⟩
      case round =>
        clear U1 hbl
        obtain ⟨k, hk, rfl, hown, hus, hbl⟩ := hrel
        by_cases hlt : k < od.length
        · obtain ⟨bn, on, rfl, hbn, h1⟩ := (HRO.out.below hbl.out hB).rg (by omega)
          have a1 := h1 k hlt
          have wf := HNO.out k hlt
          have ht := Lib.hid (fun x => I.has_take od k hlt x)
          have hs : I.goneL nx od (k + 1) = I.goneL nx od k ++ if I.used nx od k (od.getD k default).id = true then [] else [(od.getD k default).id] := rfl
          have US : Hid (∀ x, I.used nx od (k + 1) x = (I.used nx od k x || x == (od.getD k default).id)) := Lib.hid (fun x => by unfold I.used; rw [ht.out x, Bool.or_assoc])
          clear ht
          have hgl := I.goneL_le nx od k
          generalize od.getD k default = r at *
          obtain ⟨rk, ri, rp, rt, rl, rb, rr, rlb⟩ := r
          obtain ⟨x0, x1, x2, x3, x4, x5, x6, x7⟩ := a1
          simp only at x0 x1 x2 x3 x4 x5 x6 x7 wf hs
          have q1 : (0 : Int) ≤ (k : Int) := by omega
          have q2 : (k : Int) < (od.length : Int) := by omega
          have lk := fun o => (hus.out.alloc o).look wf
          have HG := Lib.hid hs
          clear h1 hs
          cases hu : I.used nx od k ri with
          | true =>
            rw [hu] at lk HG
            simp only [if_true, List.append_nil] at HG
            go_wp2_with fail
            refine ⟨⟨k + 1, by omega, by go_num, ?_, Lib.hid ?_, Lib.hid (hbl.out.alloc hbl.out.size _)⟩, by simp [intOf]; omega⟩
            · rw [HG.out]; exact Lib.hid (hown.out.alloc _)
            · rw [show I.used nx od (k + 1) = I.used nx od k from funext fun x => by
                rw [US.out x]
                by_cases e : x = ri
                · subst e; rw [hu]; simp
                · simp [e]]
              obtain ⟨D, h1, h2, h3⟩ := hus.out.alloc (.cells #[.int .i64 rk, .int .i64 ri, .int .i64 rp, .int .i64 rt, .int .i64 rl, .int .i64 rb, .int .i64 rr, .string rlb] 27)
              exact ⟨D, h1.mono (by omega), h2, h3⟩
          | false =>
            rw [hu] at lk HG
            simp only [Bool.false_eq_true, if_false] at HG
            have hlw := hus.out.lt
            have hbw := hbl.out.size
            go_wp2_with (first | (at_mapUpdate; refine wpList_mapUpdate_uset _ rfl _ _ _ rfl w.heap.size (nx.length + k) _ rfl (hus.out.alloc _) (by unfold maxLen; omega) ri rfl rfl wf ?_; intro w1 us1 hg1; have GS := I.gone_step (r := ⟨rk, ri, rp, rt, rl, rb, rr, rlb⟩) hg1 hlw hown.out; have z1 := GS.1; have own1 := GS.2.1; have hs1 := GS.2.2) | (at_builtin; refine wpList_append_any _ rfl (.tmp 36) (.tmp 39) 32 rfl (w.heap.size + 1) 3 i0 _ 1 8 Try.underlying32 hi hz0 hz1 hz2 rfl (by decide) u8 _ _ rfl own1 _ _ 1 1 [.int .i64 ri] rfl (reads_new _ [.int .i64 ri] 3) (by simp [Value.oneCell']) (by simp only [maxLen]; omega) (by omega) (by simp; omega) ?_; intro v' W2 hown' hgrow hnew))
            refine ⟨⟨k + 1, by omega, by go_num, ?_, Lib.hid ?_, Lib.hid ?_⟩, by simp [intOf]; omega⟩
            · rw [HG.out, List.length_append]
              simp only [C.ns, List.map_append, List.map_cons, List.map_nil]
              exact Lib.hid hown'
            · rw [show I.used nx od (k + 1) = fun y => I.used nx od k y || y == ri from funext US.out]
              exact (us1.alloc _).kept hgrow (fun e => by have := (hown.out.lt _ e.symm).1; omega)
            · exact (((hbl.out.alloc hbl.out.size _).grown hg1 (by simp; omega) (fun b e => by cases e; exact Nat.le_refl _)).alloc (by omega) _).grown hgrow (by simp; omega) (fun b e => by have := (hown.out.lt b e).1; omega)
        · obtain rfl : k = od.length := by omega
          have q2 : ((od.length : Int) < (od.length : Int)) = False := eq_false (by omega)
          go_wp2_with fail
          go_ret
          exact ⟨_, rfl, hown.out.mono (by omega), hbl.out⟩

/-! .. as the reference finds them. -/
theorem I.goneL_ref (nx od : List I.Rg) (k : Nat) : I.goneL nx od (k + 1) = I.goneL nx od k ++ if (!I.has nx (od.getD k default).id && !I.has (od.take k) (od.getD k default).id) = true then [(od.getD k default).id] else [] := by
  show I.goneL nx od k ++ _ = _
  unfold I.used
  cases I.has nx (od.getD k default).id <;> cases I.has (od.take k) (od.getD k default).id <;> rfl
theorem Reads.take_rg {w : World} {B : Nat} {A : Option Addr} {l : List I.Rg} (h : Reads w B 8 A l.length (I.rcs l)) {k : Nat} (hk : k ≤ l.length) : Reads w B 8 A (l.take k).length (I.rcs (l.take k)) := by
  refine ⟨by rw [I.rcs_len], fun hn => ?_⟩
  rw [List.length_take] at hn
  obtain ⟨ad, e, hb, hc⟩ := h.2 (by omega)
  refine ⟨ad, e, hb, fun j u hu => hc j u ?_⟩
  have e2 : I.rcs l = I.rcs (l.take k) ++ I.rcs (l.drop k) := by unfold I.rcs; rw [← List.flatMap_append, List.take_append_drop]
  rw [e2, List.getElem?_append_left (List.getElem?_eq_some_iff.1 hu).1, hu]
theorem slice_pre (A : Option Addr) {n c k : Nat} (hk : k ≤ n) (hc : n ≤ c) : ∀ w' : World, (Instr.sliceAt 22 (.slice A n c) none (some (.int .i64 (k : Int))) none).run Try.prog w' = .ok (.slice A k c) w' := by
  intro w'
  have ht : Try.prog.underlying 22 = some (.slice (Try.prog.elem 22)) := by kernel_rfl
  have hs : (sizeOf (Try.prog.elem 22)).run Try.prog w' = .ok 8 w' := by kernel_rfl
  rw [run_sliceAt_slice _ _ _ _ _ _ ht, run_slice_h _ _ _ _ _ ht .i64 (k : Int) (by omega) (by omega), hs]
  simp only [Result.andThen, sliced, Nat.zero_mul, Int.toNat_natCast, Nat.sub_zero]
  cases A <;> simp [addr_add_zero]
set_option maxRecDepth 100000 in
set_option maxHeartbeats 8000000 in
theorem refgone_any (Ao An : Option Addr) (co cn B : Nat) (od nx : List I.Rg) (w : World) (hro : Reads w B 8 Ao od.length (I.rcs od)) (hrn : Reads w B 8 An nx.length (I.rcs nx)) (hB : B ≤ w.heap.size) (hco : od.length ≤ co) (hlo : od.length ≤ 100000) (hln : nx.length ≤ 100000) :
    Calls Try.prog 24 #[.slice Ao od.length co, .slice An nx.length cn] w fun e w' => I.NsOut (I.goneL nx od od.length) w w' e := by
  have HRO := Lib.hid hro
  have HRN := Lib.hid hrn
  obtain ⟨i0, hi, hz0, hz1, hz2⟩ := info_parts infoInt
  have own0 := Lib.hid (World.ownsRow_lit (base := w.heap.size) (e := 3) (size := 1) w #[] 0 (Nat.le_refl _) (by decide) rfl)
  have B0 := Lib.hid ((Below.refl w.heap.size w).alloc (Nat.le_refl _) (.cells #[] 3))
  clear hro hrn
  go_enter Try.func24, Try.ntmps24
  go_wp2_with fail
  go_loopw [5, 6] (fun v i wr => ∃ k : Nat, k ≤ od.length ∧ i = .int .i64 k ∧ Hid (wr.ownsRow w.heap.size 3 1 v (I.goneL nx od k).length (C.ns (I.goneL nx od k))) ∧ Hid (Below w.heap.size w wr)) (fun _ i _ => od.length - (intOf i).toNat)
  case atStart => exact ⟨0, Nat.zero_le _, rfl, own0, B0⟩
  case round =>
    clear own0 B0
    obtain ⟨k, hk, rfl, hown, hbl⟩ := hrel
    by_cases hlt : k < od.length
    · obtain ⟨bn, on, rfl, hbn, h1⟩ := (HRO.out.below hbl.out hB).rg (by omega)
      have a1 := (h1 k hlt).c1
      have HAS1 := Lib.hid (fun n => (has_any An cn B nx (od.getD k default).id (wr.drewN n) (HRN.out.below (below_drewN hbl.out n) hB) (by unfold maxLen; omega)).mono fun e w' (h : e = _ ∧ wr.drewN n = w') => (⟨h.1, h.2.symm⟩ : e = _ ∧ w' = wr.drewN n))
      have HAS2 := Lib.hid (fun n => (has_any (some ⟨bn, on, none⟩) co B (od.take k) (od.getD k default).id (wr.drewN n) ((HRO.out.below (below_drewN hbl.out n) hB).take_rg hk) (by unfold maxLen; rw [List.length_take]; omega)).mono fun e w' (h : e = _ ∧ wr.drewN n = w') => (⟨h.1, h.2.symm⟩ : e = _ ∧ w' = wr.drewN n))
      have hs := Lib.hid (I.goneL_ref nx od k)
      have hgl := I.goneL_le nx od k
      have sl := slice_pre (some ⟨bn, on, none⟩) hk hco
      rw [List.length_take, Nat.min_eq_left hk] at HAS2
      generalize (od.getD k default).id = x at *
      generalize I.has nx x = p1 at *
      generalize I.has (od.take k) x = p2 at *
      have q1 : (0 : Int) ≤ (k : Int) := by omega
      have q2 : (k : Int) < (od.length : Int) := by omega
      clear h1
      cases p1 with
      | true =>
        go_wp2_with fail
        go_quiet ((go_at_call 21; exact Calls.quiet_of_same (HAS1.out _)))
        have hsz := hbl.out.size
        clear HAS1 HAS2 sl
        go_wp2
        refine ⟨⟨k + 1, by omega, by go_num, ?_, Lib.hid (below_drewN hbl.out _)⟩, by simp [intOf]; omega⟩
        rw [hs.out]
        simp only [Bool.not_true, Bool.not_false, Bool.and_true, Bool.and_false, Bool.false_and, Bool.true_and, Bool.false_eq_true, if_false, List.append_nil]
        exact Lib.hid hown.out
      | false =>
        cases p2 with
        | true =>
          go_wp2_with fail
          go_quiet (first | (go_at_call_of 21 (Value.slice An nx.length cn); exact Calls.quiet_of_same (HAS1.out _)) | (go_at_call_of 21 (Value.slice (some (⟨bn, on, none⟩ : Addr)) k co); exact Calls.quiet_of_same (HAS2.out _)))
          clear HAS1 HAS2 sl
          go_wp2
          refine ⟨⟨k + 1, by omega, by go_num, ?_, Lib.hid (below_drewN hbl.out _)⟩, by simp [intOf]; omega⟩
          rw [hs.out]
          simp only [Bool.not_true, Bool.not_false, Bool.and_true, Bool.and_false, Bool.false_and, Bool.true_and, Bool.false_eq_true, if_false, List.append_nil]
          exact Lib.hid hown.out
        | false =>
          go_wp2_with fail
          go_quiet (first | (go_at_call_of 21 (Value.slice An nx.length cn); exact Calls.quiet_of_same (HAS1.out _)) | (go_at_call_of 21 (Value.slice (some (⟨bn, on, none⟩ : Addr)) k co); exact Calls.quiet_of_same (HAS2.out _)))
          have hsz := hbl.out.size
          have own1 := (show (wr.drewN nq).ownsRow w.heap.size 3 1 u5 (I.goneL nx od k).length (C.ns (I.goneL nx od k)) from hown.out).alloc (.cells #[.int .i64 x] 3)
          clear HAS1 HAS2 sl
          go_wp2_with (at_builtin; refine wpList_append_any _ rfl (.tmp 34) (.tmp 40) 32 rfl w.heap.size 3 i0 _ 1 8 Try.underlying32 hi hz0 hz1 hz2 rfl (by decide) u5 _ _ rfl own1 _ _ 1 1 [.int .i64 x] rfl (reads_new _ [.int .i64 x] 3) (by simp [Value.oneCell']) (by simp only [maxLen]; omega) (by omega) (by simp; omega) ?_; intro v' W2 hown' hgrow hnew)
          refine ⟨⟨k + 1, by omega, by go_num, ?_, Lib.hid ((((below_drewN hbl.out nq).alloc (by simp; omega) _).grown hgrow (by simp; omega) (fun b e => (hown.out.lt b e).1)))⟩, by simp [intOf]; omega⟩
          rw [hs.out]
          simp only [Bool.not_false, Bool.and_true, if_true, C.ns, List.length_append, List.map_append, List.map_cons, List.map_nil]
          exact Lib.hid hown'
    · obtain rfl : k = od.length := by omega
      have q2 : ((od.length : Int) < (od.length : Int)) = False := eq_false (by omega)
      go_wp2_with fail
      go_ret
      exact ⟨_, rfl, hown.out, hbl.out⟩
end Go.Proofs.Ytoemhphgnpedmaa
