/-
  The walks of layer 30: matrix. By an AI agent.
-/
import Derived.Test.YtoemhphgnpedmaaCl
namespace Go.Proofs.Ytoemhphgnpedmaa
open Go.RowKit

def I.mrow (nx od : List I.Rg) (i n : Nat) : List Int := (List.range n).map fun k => I.cost nx od i k
def I.mtx (nx od : List I.Rg) (n i : Nat) : List (List Int) := (List.range i).map fun t => I.mrow nx od t n
theorem I.mrow_len (nx od : List I.Rg) (i n : Nat) : (I.mrow nx od i n).length = n := by simp [I.mrow]
theorem I.mtx_len (nx od : List I.Rg) (n i : Nat) : (I.mtx nx od n i).length = i := by simp [I.mtx]
theorem I.mtx_succ (nx od : List I.Rg) (n i : Nat) : I.mtx nx od n (i + 1) = I.mtx nx od n i ++ [I.mrow nx od i n] := by simp [I.mtx, List.range_succ]
theorem I.mtx_sq (nx od : List I.Rg) {n : Nat} (hn : n ≤ 40) : C.Sq (I.mtx nx od n n) := by
  refine ⟨by rw [I.mtx_len]; exact hn, fun r hr => ?_, fun r hr x hx => ?_⟩
  · simp only [I.mtx, List.mem_map, List.mem_range] at hr
    obtain ⟨i, _, rfl⟩ := hr
    rw [I.mrow_len, I.mtx_len]
  · simp only [I.mtx, List.mem_map, List.mem_range] at hr
    obtain ⟨i, _, rfl⟩ := hr
    simp only [I.mrow, List.mem_map, List.mem_range] at hx
    obtain ⟨j, _, rfl⟩ := hx
    have := I.cost_bd nx od i j
    unfold A.M
    omega
/-- The row, its first k numbers laid. -/
def I.rowF (nx od : List I.Rg) (i k : Nat) (t : Nat) : Value := .int .i64 (if t < k then I.cost nx od i t else 0)
theorem I.rowF_all (nx od : List I.Rg) (i n : Nat) : (List.range n).map (I.rowF nx od i n) = C.ns (I.mrow nx od i n) := by
  simp only [C.ns, I.mrow, List.map_map]
  apply List.map_congr_left
  intro t ht
  simp only [List.mem_range] at ht
  simp [I.rowF, ht]
/-- A table that the call made. -/
def I.MatOut (nx od : List I.Rg) (n : Nat) (w w' : World) (e : Ending) : Prop := ∃ v rs, e = .returned v ∧ C.Om w' w.heap.size v rs ∧ C.mt rs = I.mtx nx od n n ∧ rs.length = n ∧ Below w.heap.size w w'

set_option maxRecDepth 100000 in
set_option maxHeartbeats 16000000 in
theorem matrix_any (B Ba Bb Bl : Nat) (Aa Ab : Option Addr) (ca cb : Nat) (nx od : List I.Rg) (w : World) (n : Nat) (h : I.Env w B Ba Bb Aa Ab ca cb nx od) (hl : w.cell? ⟨Bl, 0, none⟩ = some (.func (.func 27) #[] #[.pointer (some ⟨Ba, 0, none⟩), .pointer (some ⟨Bb, 0, none⟩)])) (hll : Bl < w.heap.size) (hna : nx.length ≤ 1000) (hnb : od.length ≤ 1000) (hn : n ≤ 40) :
    Calls Try.prog 29 #[.int .i64 n, .func (.func 30) #[] #[.pointer (some ⟨Bl, 0, none⟩)]] w fun e w' => I.MatOut nx od n w w' e := by
  obtain ⟨j0, hj, hj0, hj1, hj2⟩ := info_parts infoRowI
  have CO : Hid (∀ (wr : World) (i k : Nat), Below w.heap.size w wr → i ≤ 1000 → k ≤ 1000 → Calls Try.prog 30 #[.int .i64 i, .int .i64 k, .pointer (some ⟨Bl, 0, none⟩)] wr fun e w' => e = .returned (.int .i64 (I.cost nx od i k)) ∧ Below wr.heap.size wr w') :=
    Lib.hid (fun wr i k hb hi hk => cost30_any B Ba Bb Bl Aa Ab ca cb nx od wr i k (h.below hb) ((hb.cell (p := ⟨Bl, 0, none⟩) hll).trans hl) hna hnb hi hk)
  have hm : ∀ w1 : World, (Instr.makeSlice 32 (.int .i64 n) (.int .i64 n)).run Try.prog w1 = .ok (.slice (some ⟨w1.heap.size, 0, none⟩) n n) (w1.alloc (.cells (madeCells #[.int .i64 0] n) 3)) := fun w1 =>
    run_make_row' (w := w1) (P := Try.prog) 32 3 (.int .i64 0) 8 Try.underlying32 infoInt rfl .i64 .i64 n (by omega) (by omega)
  have OM0 := Lib.hid (C.Om.nil w w.heap.size)
  have B0 : Hid (Below w.heap.size w w) := Lib.hid (Below.refl _ w)
  clear h hl hll
  go_enter Try.func29, Try.ntmps29
  go_wp2
  go_loopw [5, 10] (fun v5 v10 wr => ∃ (i : Nat) (rs : List (Option Addr × Nat × List Int)), v10 = .int .i64 i ∧ i ≤ n ∧ rs.length = i ∧ Hid (C.mt rs = I.mtx nx od n i) ∧ Hid (C.Om wr w.heap.size v5 rs) ∧ Hid (Below w.heap.size w wr)) (fun _ v10 _ => n - (intOf v10).toNat)
  case atStart => exact ⟨0, [], rfl, by omega, rfl, Lib.hid rfl, OM0, B0⟩
  case round =>
    clear OM0 B0
    obtain ⟨i, rs, rfl, hin, hrl, hmt, hom, hbl⟩ := hrel
    have HRL := Lib.hid hrl
    clear hrl
    by_cases hlt : i < n
    · have R0 : Hid ((wr.alloc (.cells (madeCells #[.int .i64 0] n) 3)).rowIs wr.heap.size 3 n (I.rowF nx od i 0)) := Lib.hid ((World.rowIs_made wr (.int .i64 0) n 3).congr (fun j _ => by simp [I.rowF]))
      have B1 : Hid (Below wr.heap.size wr (wr.alloc (.cells (madeCells #[.int .i64 0] n) 3))) := Lib.hid ((Below.refl _ wr).alloc (Nat.le_refl _) _)
      go_wp2
      obtain ⟨wo, hwo⟩ : ∃ wo : World, wo = wr := ⟨_, rfl⟩
      rw [← hwo] at R0 B1 hom hbl ⊢
      clear hwo
      obtain ⟨N, hN⟩ : ∃ N, wo.heap.size = N := ⟨_, rfl⟩
      rw [hN] at R0 B1 ⊢
      have HN := Lib.hid hN
      clear hN
      go_loopw [17] (fun v17 w3 => ∃ (k : Nat), v17 = .int .i64 k ∧ k ≤ n ∧ Hid (w3.rowIs N 3 n (I.rowF nx od i k)) ∧ Hid (Below N wo w3)) (fun v17 _ => n - (intOf v17).toNat)
      case atStart => exact ⟨0, rfl, by omega, R0, B1⟩
      case round =>
        clear R0 B1
        obtain ⟨k, rfl, hkn, hrow, hb3⟩ := hrel
        by_cases hkl : k < n
        · have CC := Lib.hid (CO.out wr i k (hbl.out.trans (hb3.out.mono (by rw [← HN.out]; exact hbl.out.size))) (by omega) (by omega))
          have hbd := I.cost_bd nx od i k
          obtain ⟨v, hv⟩ : ∃ v, I.cost nx od i k = v := ⟨_, rfl⟩
          rw [hv] at CC hbd
          have HV := Lib.hid hv
          clear hv
          have q1 : (0 : Int) ≤ (k : Int) := by omega
          have q2 : (k : Int) < (n : Int) := by omega
          go_wp2_with fail
          refine CC.out.mono ?_
          rintro e' w4 ⟨rfl, b4⟩
          have r4 := rowIs_below hrow.out b4 hrow.out.lt
          have z0 := r4.cell hkl
          have z1 := r4.frozen k
          have z2 := r4.lt
          have R4 := Lib.hid ((r4.set k (.int .i64 v)).congr (g := I.rowF nx od i (k + 1)) (fun j hj => by
            simp only [I.rowF]
            by_cases e : j = k
            · subst e; simp [HV.out]
            · simp only [e, if_false]
              by_cases h : j < k
              · rw [if_pos h, if_pos (by omega)]
              · rw [if_neg h, if_neg (by omega)]))
          have B4 : Hid (Below N wo (w4.setCell ⟨N, k, none⟩ (.int .i64 v))) := Lib.hid ((hb3.out.trans (b4.mono (Nat.le_of_lt hrow.out.lt))).setCell (Nat.le_refl _) _)
          clear r4 b4 hrow hb3 CC
          go_wp2
          go_roundw
          case rel => exact ⟨k + 1, by go_num, by omega, R4, B4⟩
          case measure => simp [intOf] <;> omega
        · obtain rfl : k = n := by omega
          have OW := Lib.hid (own_of_rowIs hrow.out (Nat.le_refl N) (by simp only [maxLen]; omega))
          rw [I.rowF_all] at OW
          have hb3' : Below wo.heap.size wo wr := by rw [HN.out]; exact hb3.out
          have own2 := (own_under hom.out.out hb3').alloc (.cells #[.slice (some ⟨N, 0, none⟩) k k] 32)
          have hsz := hb3'.size
          have hsw := hbl.out.size
          rw [HRL.out] at own2
          have HB3 := Lib.hid hb3'
          clear hb3'
          go_wp2_with (at_builtin; refine wpList_append_any _ rfl (.tmp 28) (.tmp 30) 45 rfl w.heap.size 32 j0 _ 1 24 Try.underlying45 hj hj0 hj1 hj2 rfl (by decide) u5 _ _ rfl own2 _ _ 1 1 [.slice (some ⟨N, 0, none⟩) k k] rfl (reads_new _ [.slice (some ⟨N, 0, none⟩) k k] 32) (by simp [Value.oneCell']) (by simp only [maxLen]; omega) (by omega) (by simp; omega) ?_; intro v' W4 hown' hgrow hnew)
          have OM4 : Hid (C.Om W4 w.heap.size v' (rs ++ [(some ⟨N, 0, none⟩, k, I.mrow nx od i k)])) := Lib.hid (hom.out.push (r0 := (some ⟨N, 0, none⟩, k, I.mrow nx od i k)) hsw HB3.out (by unfold C.slv; simp only [I.mrow_len]; rw [HN.out]; exact OW.out) (by simp [C.slv, Value.ownBlock]) (by unfold C.slv; simp only [I.mrow_len]; rw [HRL.out]; exact hown') (by unfold C.slv; simp only [I.mrow_len]; exact hgrow) (by unfold C.slv; simp only [I.mrow_len]; exact hnew))
          have B4 : Hid (Below w.heap.size w W4) := Lib.hid (((hbl.out.trans (HB3.out.mono hsw)).alloc (by omega) _).grown hgrow (by simp; omega) (fun b e => (hom.out.out.lt b e).1))
          have MT4 : Hid (C.mt (rs ++ [(some ⟨N, 0, none⟩, k, I.mrow nx od i k)]) = I.mtx nx od k (i + 1)) := Lib.hid (by
            rw [I.mtx_succ, ← hmt.out]
            simp [C.mt])
          have RL4 : Hid ((rs ++ [((some ⟨N, 0, none⟩ : Option Addr), k, I.mrow nx od i k)]).length = i + 1) := Lib.hid (by simp [HRL.out])
          clear hown' hgrow hnew own2 hom hbl hmt HB3 hb3 hrow OW
          go_wp2
          go_roundw
          case rel => exact ⟨i + 1, _, by go_num, hlt, RL4.out, MT4, OM4, B4⟩
          case measure => simp [intOf] <;> omega
    · obtain rfl : i = n := by omega
      go_wp2_with fail
      go_ret
      exact ⟨_, rs, rfl, hom.out, hmt.out, HRL.out, hbl.out⟩
end Go.Proofs.Ytoemhphgnpedmaa
