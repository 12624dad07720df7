/-
  The walks of layer 18: the reference's Gain. By an AI agent.
-/
import Derived.Test.YthohninbelhddaaRg
import Derived.Test.YthohninbelhddaaRg2
namespace Go.Proofs.Ythohninbelhddaa
open Go.RowKit

attribute [local go_sem] guard44


theorem C.cnt_rows (a b : List (List C.Gl)) (t e : Nat) (k : Int) (he : e ≤ a.length) (x y : Int) (hx : x = t) (hy : y = e) : V.cntI (V.eqAt (V.rows a x y k) b) t e = V.cntI (V.hit a b x y k) t e :=
  V.cnt_congr (fun i _ hi => by unfold V.eqAt V.hit; rw [V.rows_get _ _ _ _ (by omega)])
set_option maxRecDepth 10000 in
set_option maxHeartbeats 8000000 in
theorem refGain_any (B : Nat) (a b : C.VR) (t e k : Int) (w : World) (ha : C.Rv w B a.A a.rs) (hb : C.Rv w B b.A b.rs) (hB : B ≤ w.heap.size) (hal : a.rs.length ≤ 1000) (h40 : ∀ r ∈ a.rs, r.2.2.length ≤ 1000) :
    Calls Try.prog 20 #[a.val, b.val, .int .i64 t, .int .i64 e, .int .i64 k] w fun e' w' => e' = .returned (.int .i64 (C.gn a b t e k)) ∧ Below w.heap.size w w' := by
  have MT := Lib.hid (fun w' => refmatch_any a b w')
  have RW : Hid (∀ w', Below w.heap.size w w' → Calls Try.prog 19 #[.slice a.A a.rs.length a.c, .int .i64 t, .int .i64 e, .int .i64 k] w' fun x w'' => C.RowsOut a.gl t e k w' w'' x) := Lib.hid (fun w' hbl => refRows_any B a.A a.c a.rs t e k w' (ha.below hbl hB) (Nat.le_trans hB hbl.size) hal h40)
  have E2 : Hid (C.mt a.ht b.ht a.rs.length b.rs.length = true → V.possB a.rs.length t e k = true → ∀ w' q, Below w.heap.size w w' → Calls Try.prog 30 #[.slice a.A a.rs.length a.c, .slice b.A b.rs.length b.c, .int .i64 t, .int .i64 e] (w'.drewN q) fun x w'' => x = .returned (.int .i64 (V.cntI (V.eqAt a.gl b.gl) t.toNat e.toNat)) ∧ ∃ n, w'' = w'.drewN n) := Lib.hid (fun hm hp w' q hbl => by
    obtain ⟨p1, p2, p3, p4, p5, p6⟩ := of_decide_eq_true hp
    have hm' := of_decide_eq_true hm
    obtain ⟨T, rfl⟩ : ∃ T : Nat, t = T := ⟨t.toNat, by omega⟩
    obtain ⟨E, rfl⟩ : ∃ E : Nat, e = E := ⟨e.toNat, by omega⟩
    refine (refequal_any B a.A b.A a.c b.c a.rs b.rs T E (w'.drewN q) ((ha.below hbl hB).drewN q) ((hb.below hbl hB).drewN q) hal (by omega) (by omega) (by omega)).mono ?_
    rintro x w'' ⟨rfl, n, rfl⟩
    exact ⟨by simp [C.VR.gl], q + n, by simp⟩)
  have E1 : Hid (C.mt a.ht b.ht a.rs.length b.rs.length = true → V.possB a.rs.length t e k = true → ∀ w' q A c rs, Below w.heap.size w w' → C.Rv w' w'.heap.size A rs → rs.map (·.2.2) = V.rows a.gl t e k → Calls Try.prog 30 #[.slice A rs.length c, .slice b.A b.rs.length b.c, .int .i64 t, .int .i64 e] (w'.drewN q) fun x w'' => x = .returned (.int .i64 (V.cntI (V.hit a.gl b.gl t e k) t.toNat e.toNat)) ∧ ∃ n, w'' = w'.drewN n) := Lib.hid (fun hm hp w' q A c rs hbl hrv hrs => by
    obtain ⟨p1, p2, p3, p4, p5, p6⟩ := of_decide_eq_true hp
    have hm' := of_decide_eq_true hm
    have hlr : rs.length = a.rs.length := by have := congrArg List.length hrs; simpa [V.rows, C.VR.gl] using this
    obtain ⟨T, hT⟩ : ∃ T : Nat, t = T := ⟨t.toNat, by omega⟩
    obtain ⟨E, hE⟩ : ∃ E : Nat, e = E := ⟨e.toNat, by omega⟩
    have h := refequal_any w'.heap.size A b.A c b.c rs b.rs T E (w'.drewN q) (hrv.drewN q) (((hb.below hbl hB).more (Nat.le_trans hB hbl.size)).drewN q) (by omega) (by omega) (by omega) (by omega)
    rw [hrs, C.cnt_rows a.gl (b.rs.map (·.2.2)) T E k (by simp [C.VR.gl]; omega) t e hT hE] at h
    rw [hT, hE] at h ⊢
    refine h.mono ?_
    rintro x w'' ⟨rfl, n, rfl⟩
    exact ⟨by simp [C.VR.gl], q + n, by simp⟩)
  have Z1 : Hid (C.mt a.ht b.ht a.rs.length b.rs.length = false → C.gn a b t e k = 0) := Lib.hid (fun h => if_neg (fun g => by rw [h] at g; cases g.1))
  have Z2 : Hid (V.possB a.rs.length t e k = false → C.gn a b t e k = 0) := Lib.hid (fun h => if_neg (fun g => of_decide_eq_false h g.2))
  have Z3 : Hid (C.mt a.ht b.ht a.rs.length b.rs.length = true → V.possB a.rs.length t e k = true → C.gn a b t e k = (V.cntI (V.hit a.gl b.gl t e k) t.toNat e.toNat : Int) - (V.cntI (V.eqAt a.gl b.gl) t.toNat e.toNat : Int) ∧ V.cntI (V.hit a.gl b.gl t e k) t.toNat e.toNat ≤ 1000 ∧ V.cntI (V.eqAt a.gl b.gl) t.toNat e.toNat ≤ 1000) := Lib.hid (fun h hp => by
    obtain ⟨p1, p2, p3, p4, p5, p6⟩ := of_decide_eq_true hp
    have l1 := V.cnt_le (V.hit a.gl b.gl t e k) t.toNat e.toNat
    have l2 := V.cnt_le (V.eqAt a.gl b.gl) t.toNat e.toNat
    exact ⟨if_pos ⟨h, of_decide_eq_true hp⟩, by omega, by omega⟩)
  have hgl : a.gl.length = a.rs.length := by simp [C.VR.gl]
  have RW2 : Hid (∀ w' w'' x, C.RowsOut a.gl t e k w' w'' x → Below w'.heap.size w' w'' ∧ ((V.possB a.rs.length t e k = false ∧ ∃ A c, x = .returned (.tuple #[.slice A 0 c, .int .i64 2])) ∨ (V.possB a.rs.length t e k = true ∧ ∃ A c, ∃ rs : List (Option Addr × Nat × List C.Gl), x = .returned (.tuple #[.slice A rs.length c, .int .i64 0]) ∧ C.Rv w'' w''.heap.size A rs ∧ rs.map (·.2.2) = V.rows a.gl t e k))) := Lib.hid (fun w' w'' x h => by
    unfold C.RowsOut at h
    rw [hgl] at h
    exact h)
  clear ha hb h40 hgl
  generalize C.gn a b t e k = G at *
  generalize V.cntI (V.eqAt a.gl b.gl) t.toNat e.toNat = n2 at *
  generalize V.cntI (V.hit a.gl b.gl t e k) t.toNat e.toNat = n1 at *
  generalize a.gl = agl at *
  obtain ⟨aw, ah, aA, ac, ars, ar, aco, av⟩ := a
  obtain ⟨bw, bh, bA, bc, brs, br, bco, bv⟩ := b
  dsimp only [C.VR.val] at *
  obtain ⟨W, hW⟩ : ∃ W, (w.alloc (.cells #[.int .i64 aw, .int .i64 ah, .slice aA ars.length ac, .int .i64 ar, .int .i64 aco, .bool av] 24)).alloc (.cells #[.int .i64 bw, .int .i64 bh, .slice bA brs.length bc, .int .i64 br, .int .i64 bco, .bool bv] 24) = W := ⟨_, rfl⟩
  have hbW : Below w.heap.size w W := by rw [← hW]; exact ((Below.refl _ w).alloc (Nat.le_refl _) _).alloc (by simp) _
  have V0 : C.V2 W w.heap.size #[.int .i64 aw, .int .i64 ah, .slice aA ars.length ac, .int .i64 ar, .int .i64 aco, .bool av] #[.int .i64 bw, .int .i64 bh, .slice bA brs.length bc, .int .i64 br, .int .i64 bco, .bool bv] := by rw [← hW]; exact C.V2.new w _ _
  have xa0 := C.blk_cell V0.a 0
  have xa1 := C.blk_cell V0.a 1
  have xa2 := C.blk_cell V0.a 2
  have xa3 := C.blk_cell V0.a 3
  have xa4 := C.blk_cell V0.a 4
  have xa5 := C.blk_cell V0.a 5
  simp only [List.getElem?_toArray, List.getElem?_cons_zero, List.getElem?_cons_succ] at xa0 xa1 xa2 xa3 xa4 xa5
  have xb0 := C.blk_cell V0.b 0
  have xb1 := C.blk_cell V0.b 1
  have xb2 := C.blk_cell V0.b 2
  have xb3 := C.blk_cell V0.b 3
  have xb4 := C.blk_cell V0.b 4
  have xb5 := C.blk_cell V0.b 5
  simp only [List.getElem?_toArray, List.getElem?_cons_zero, List.getElem?_cons_succ] at xb0 xb1 xb2 xb3 xb4 xb5
  have V0 := Lib.hid V0
  go_enter Try.func20, Try.ntmps20
  go_wp2_with fail
  refine (MT.out _).mono ?_
  rintro e' w1 ⟨rfl, b1'⟩
  have b1 := hbW.trans (b1'.mono hbW.size)
  have V1 := Lib.hid (V0.out.below b1')
  clear xa0 xa1 xa2 xa3 xa4 xa5 xb0 xb1 xb2 xb3 xb4 xb5 hW
  have xa0 := C.blk_cell V1.out.a 0
  have xa1 := C.blk_cell V1.out.a 1
  have xa2 := C.blk_cell V1.out.a 2
  have xa3 := C.blk_cell V1.out.a 3
  have xa4 := C.blk_cell V1.out.a 4
  have xa5 := C.blk_cell V1.out.a 5
  simp only [List.getElem?_toArray, List.getElem?_cons_zero, List.getElem?_cons_succ] at xa0 xa1 xa2 xa3 xa4 xa5
  have xb0 := C.blk_cell V1.out.b 0
  have xb1 := C.blk_cell V1.out.b 1
  have xb2 := C.blk_cell V1.out.b 2
  have xb3 := C.blk_cell V1.out.b 3
  have xb4 := C.blk_cell V1.out.b 4
  have xb5 := C.blk_cell V1.out.b 5
  simp only [List.getElem?_toArray, List.getElem?_cons_zero, List.getElem?_cons_succ] at xb0 xb1 xb2 xb3 xb4 xb5
  cases hm : C.mt ah bh ars.length brs.length
  · have hz := Lib.hid (Z1.out hm)
    clear MT RW E1 E2 Z1 Z2 Z3 RW2
    go_wp2_with fail
    go_ret
    exact ⟨ret_int hz.out.symm, b1⟩
  · have E1 := Lib.hid (E1.out hm)
    have E2 := Lib.hid (E2.out hm)
    have Z3 := Lib.hid (Z3.out hm)
    clear hm
    go_wp2_with fail
    refine (RW.out _ b1).mono ?_
    intro e' w2 hro
    obtain ⟨b2', hro⟩ := RW2.out _ _ _ hro
    have b2 := b1.trans (b2'.mono b1.size)
    have V2 := Lib.hid (V1.out.below b2')
    clear xa0 xa1 xa2 xa3 xa4 xa5 xb0 xb1 xb2 xb3 xb4 xb5
    have xa0 := C.blk_cell V2.out.a 0
    have xa1 := C.blk_cell V2.out.a 1
    have xa2 := C.blk_cell V2.out.a 2
    have xa3 := C.blk_cell V2.out.a 3
    have xa4 := C.blk_cell V2.out.a 4
    have xa5 := C.blk_cell V2.out.a 5
    simp only [List.getElem?_toArray, List.getElem?_cons_zero, List.getElem?_cons_succ] at xa0 xa1 xa2 xa3 xa4 xa5
    have xb0 := C.blk_cell V2.out.b 0
    have xb1 := C.blk_cell V2.out.b 1
    have xb2 := C.blk_cell V2.out.b 2
    have xb3 := C.blk_cell V2.out.b 3
    have xb4 := C.blk_cell V2.out.b 4
    have xb5 := C.blk_cell V2.out.b 5
    simp only [List.getElem?_toArray, List.getElem?_cons_zero, List.getElem?_cons_succ] at xb0 xb1 xb2 xb3 xb4 xb5
    rcases hro with ⟨hp, A, c, rfl⟩ | ⟨hp, A, c, rs, rfl, hrv, hrs⟩
    · have hz := Lib.hid (Z2.out hp)
      clear E1 E2 Z1 Z2 Z3 RW2 hp
      go_wp2_with fail
      go_ret
      exact ⟨ret_int hz.out.symm, b2⟩
    · have C1 := Lib.hid (fun q => E1.out hp w2 q A c rs b2 hrv hrs)
      have C2 := Lib.hid (fun q => E2.out hp w2 q b2)
      obtain ⟨z3, z4, z5⟩ := Z3.out hp
      have Z3' := Lib.hid z3
      clear z3 hro
      have u1 : IntKind.i64.wrap ((n1 : Int) - (n2 : Int)) = (n1 : Int) - (n2 : Int) := by simp [IntKind.wrap, IntKind.bits, IntKind.signed]; omega
      clear E1 E2 Z1 Z2 Z3 RW2 hp hrv hrs RW MT
      go_wp2_with fail
      go_quiet (first | (go_at_call 30; with_reducible exact C1.out _) | (go_at_call 30; with_reducible exact C2.out _))
      go_wp2_with fail
      go_ret
      exact ⟨ret_int Z3'.out.symm, below_drewN b2 _⟩

end Go.Proofs.Ythohninbelhddaa
