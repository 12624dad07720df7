/-
  The walks of layer 29: the table that the statements make of a list. By an AI agent.
-/
import Derived.Test.YtnekhlklflgodaaTot
namespace Go.Proofs.Ytnekhlklflgodaa
open Go.RowKit

theorem infoRowI : (Try.prog.info? 23).map (fun i => (i.zero, i.size, i.bytes)) = some (some (.slice none 0 0), 1, 24) := by kernel_rfl

theorem own_mono {w : World} {base base' size n : Nat} {e : TypeId} {v : Value} {xs : List Value} (h : w.ownsRow base e size v n xs) (hb : base' ≤ base) : w.ownsRow base' e size v n xs :=
  ⟨h.1, h.2.imp id fun ⟨g, cap, cur, e1, h1, h2⟩ => ⟨g, cap, cur, e1, Nat.le_trans hb h1, h2⟩⟩
/-- A table of the call's own: rows in blocks of their own. -/
structure C.Om (w : World) (base : Nat) (v : Value) (rs : List (Option Addr × Nat × List Int)) : Prop where
  out : w.ownsRow base 23 1 v rs.length (rs.map C.slv)
  row : ∀ r ∈ rs, w.ownsRow base 3 1 (C.slv r) r.2.2.length (C.ns r.2.2)
  dis : rs.Pairwise fun r s => (C.slv r).ownBlock ≠ (C.slv s).ownBlock
  dio : ∀ r ∈ rs, (C.slv r).ownBlock ≠ v.ownBlock
  ne : ∀ r ∈ rs, (C.slv r).ownBlock ≠ none
theorem C.Om.under {w w' : World} {base : Nat} {v : Value} {rs : List (Option Addr × Nat × List Int)} (h : C.Om w base v rs) (hb : Below w.heap.size w w') : C.Om w' base v rs :=
  ⟨own_under h.out hb, fun r hr => own_under (h.row r hr) hb, h.dis, h.dio, h.ne⟩
theorem C.Om.mx {w : World} {base : Nat} {v : Value} {rs : List (Option Addr × Nat × List Int)} (h : C.Om w base v rs) (hl : rs.length ≤ maxLen) (hr : ∀ r ∈ rs, r.2.2.length ≤ maxLen) : ∃ A c, v = .slice A rs.length c ∧ C.Mx w w.heap.size A rs := by
  obtain ⟨A, c, hv, hrd⟩ := own_reads h.out
  refine ⟨A, c, hv, hrd, fun r hr' => ⟨?_, hr r hr'⟩, hl⟩
  obtain ⟨A', c', hv', hrd'⟩ := own_reads (h.row r hr')
  have : r.1 = A' := by unfold C.slv at hv'; injection hv'
  rw [this]; exact hrd'
theorem C.Om.push {wr w3 W4 : World} {base : Nat} {vo vo' : Value} {rs : List (Option Addr × Nat × List Int)} {r0 : Option Addr × Nat × List Int} (h : C.Om wr base vo rs) (hbase : base ≤ wr.heap.size) (hb : Below wr.heap.size wr w3)
    (hrow : w3.ownsRow wr.heap.size 3 1 (C.slv r0) r0.2.2.length (C.ns r0.2.2)) (hne : (C.slv r0).ownBlock ≠ none)
    (hown : W4.ownsRow base 23 1 vo' (rs.length + 1) (rs.map C.slv ++ [C.slv r0])) (hg : (w3.alloc (.cells #[C.slv r0] 23)).grownBy W4 vo.ownBlock) (hnew : vo'.ownBlock = vo.ownBlock ∨ vo'.ownBlock = some (w3.alloc (.cells #[C.slv r0] 23)).heap.size) :
    C.Om W4 base vo' (rs ++ [r0]) := by
  have lo : ∀ r ∈ rs, ∀ g, (C.slv r).ownBlock = some g → g < wr.heap.size := fun r hr g e => ((h.row r hr).lt g e).2
  have vlo : ∀ g, vo.ownBlock = some g → g < wr.heap.size := fun g e => (h.out.lt g e).2
  have nhi : ∀ g, (C.slv r0).ownBlock = some g → wr.heap.size ≤ g ∧ g < w3.heap.size := fun g e => hrow.lt g e
  have hne0 : (C.slv r0).ownBlock ≠ vo.ownBlock := by
    intro e
    cases hv : vo.ownBlock with
    | none => exact hne (e.trans hv)
    | some g => have h1 := vlo g hv; have h2 := nhi g (e.trans hv); omega
  have keep : ∀ {r : Option Addr × Nat × List Int} {b : Nat}, w3.ownsRow b 3 1 (C.slv r) r.2.2.length (C.ns r.2.2) → (C.slv r).ownBlock ≠ vo.ownBlock → W4.ownsRow b 3 1 (C.slv r) r.2.2.length (C.ns r.2.2) := fun h1 h2 => (h1.alloc _).kept hg (.inr h2)
  refine ⟨by simpa using hown, fun r hr => ?_, ?_, fun r hr => ?_, fun r hr => ?_⟩
  · rcases List.mem_append.1 hr with hr | hr
    · exact keep (own_under (h.row r hr) hb) (h.dio r hr)
    · simp only [List.mem_cons, List.not_mem_nil, or_false] at hr
      subst hr
      exact keep (own_mono hrow hbase) hne0
  · rw [List.pairwise_append]
    refine ⟨h.dis, by simp, fun r hr s hs e => ?_⟩
    simp only [List.mem_cons, List.not_mem_nil, or_false] at hs
    subst hs
    cases hv : (C.slv s).ownBlock with
    | none => exact hne hv
    | some g => have h1 := lo r hr g (e.trans hv); have h2 := nhi g hv; omega
  · have lt3 : ∀ g, (C.slv r).ownBlock = some g → g < w3.heap.size := fun g e => by
      rcases List.mem_append.1 hr with hr | hr
      · have := lo r hr g e; have := hb.size; omega
      · simp only [List.mem_cons, List.not_mem_nil, or_false] at hr
        subst hr; exact (nhi g e).2
    rcases hnew with e | e
    · rw [e]
      rcases List.mem_append.1 hr with hr | hr
      · exact h.dio r hr
      · simp only [List.mem_cons, List.not_mem_nil, or_false] at hr
        subst hr; exact hne0
    · rw [e]
      intro e2
      have := lt3 _ e2
      simp at this
      omega
  · rcases List.mem_append.1 hr with hr | hr
    · exact h.ne r hr
    · simp only [List.mem_cons, List.not_mem_nil, or_false] at hr
      subst hr; exact hne
theorem C.Om.start (w : World) (base : Nat) (hb : base ≤ w.heap.size) : C.Om (w.alloc (.cells #[] 23)) base (.slice (some ⟨w.heap.size, 0, none⟩) 0 0) [] :=
  ⟨World.ownsRow_lit (base := base) (e := 23) (size := 1) w #[] 0 hb (by decide) rfl, fun r h => absurd h (by simp), List.Pairwise.nil, fun r h => absurd h (by simp), fun r h => absurd h (by simp)⟩

/-- The number at a place of the list. -/
def C.abs (x : Int) : Int := if x < 0 then -x else x
def C.entry (l : List Int) (mo : Int) (k : Nat) : Int := if l.length = 0 then 0 else C.abs ((l.getD (k % l.length) 0).tmod (mo + 1))
def C.mrow (l : List Int) (mo : Int) (n i j : Nat) : List Int := (List.range j).map fun t => C.entry l mo (i * n + t)
def C.mtx (l : List Int) (mo : Int) (n i : Nat) : List (List Int) := (List.range i).map fun t => C.mrow l mo n t n
theorem C.mrow_succ (l : List Int) (mo : Int) (n i j : Nat) : C.mrow l mo n i (j + 1) = C.mrow l mo n i j ++ [C.entry l mo (i * n + j)] := by simp [C.mrow, List.range_succ]
theorem C.mtx_succ (l : List Int) (mo : Int) (n i : Nat) : C.mtx l mo n (i + 1) = C.mtx l mo n i ++ [C.mrow l mo n i n] := by simp [C.mtx, List.range_succ]
theorem C.mrow_len (l : List Int) (mo : Int) (n i j : Nat) : (C.mrow l mo n i j).length = j := by simp [C.mrow]
theorem C.mtx_len (l : List Int) (mo : Int) (n i : Nat) : (C.mtx l mo n i).length = i := by simp [C.mtx]
theorem C.entry_range (l : List Int) {mo : Int} (h : 0 ≤ mo) (k : Nat) : 0 ≤ C.entry l mo k ∧ C.entry l mo k ≤ mo := by
  unfold C.entry
  split
  · omega
  · generalize l.getD (k % l.length) 0 = y
    have h1 := Int.tmod_lt_of_pos y (show (0 : Int) < mo + 1 by omega)
    have h2 : -(mo + 1) < y.tmod (mo + 1) := by
      have := Int.tmod_lt_of_pos (-y) (show (0 : Int) < mo + 1 by omega)
      rw [Int.neg_tmod] at this
      omega
    unfold C.abs
    split <;> omega
theorem C.mtx_sq (l : List Int) {mo : Int} (h : 0 ≤ mo) (h2 : mo ≤ 1000) {n : Nat} (hn : n ≤ 40) : C.Sq (C.mtx l mo n n) := by
  refine ⟨by rw [C.mtx_len]; exact hn, fun r hr => ?_, fun r hr x hx => ?_⟩
  · simp only [C.mtx, List.mem_map, List.mem_range] at hr
    obtain ⟨i, _, rfl⟩ := hr
    rw [C.mrow_len, C.mtx_len]
  · simp only [C.mtx, List.mem_map, List.mem_range] at hr
    obtain ⟨i, _, rfl⟩ := hr
    simp only [C.mrow, List.mem_map, List.mem_range] at hx
    obtain ⟨j, _, rfl⟩ := hx
    have := C.entry_range l h (i * n + j)
    unfold A.M
    omega
/-- A table that the call made. -/
def C.MatOut (l : List Int) (mo : Int) (n : Nat) (w w' : World) (e : Ending) : Prop := ∃ v rs, e = .returned v ∧ C.Om w' w.heap.size v rs ∧ C.mt rs = C.mtx l mo n n ∧ Below w.heap.size w w'

set_option maxRecDepth 100000 in
set_option maxHeartbeats 16000000 in
theorem matrix_any (B : Nat) (Al : Option Addr) (cl : Nat) (l : List Int) (n : Nat) (mo : Int) (w : World) (hr : Reads w B 1 Al l.length (C.ns l)) (hB : B ≤ w.heap.size) (hl : l.length ≤ 1000) (hn : n ≤ 12) (hm : 0 ≤ mo ∧ mo ≤ 1000) :
    Calls Try.prog 16 #[.slice Al l.length cl, .int .i64 n, .int .i64 mo] w fun e w' => C.MatOut l mo n w w' e := by
  obtain ⟨i0, hi, hz0, hz1, hz2⟩ := info_parts infoInt
  obtain ⟨j0, hj, hj0, hj1, hj2⟩ := info_parts infoRowI
  obtain ⟨hm1, hm2⟩ := hm
  have HR := Lib.hid hr
  have OM0 := Lib.hid (C.Om.start w w.heap.size (Nat.le_refl _))
  have B0 : Hid (Below w.heap.size w (w.alloc (.cells #[] 23))) := Lib.hid ((Below.refl _ w).alloc (Nat.le_refl _) _)
  have um : IntKind.i64.wrap (mo + 1) = mo + 1 := by simp [IntKind.wrap, IntKind.bits, IntKind.signed]; omega
  have K0 : Hid (l.length = 0 → (0 : Nat) = 0) := Lib.hid (fun _ => rfl)
  clear hr
  go_enter Try.func16, Try.ntmps16
  go_wp2
  go_loopw [7, 8, 9] (fun v7 v8 v9 wr => ∃ (i k : Nat), ∃ rs : List (Option Addr × Nat × List Int), v9 = .int .i64 i ∧ i ≤ n ∧ v8 = .int .i64 k ∧ Hid (0 < l.length → k = i * n) ∧ k ≤ 1000 ∧ rs.length = i ∧ Hid (C.mt rs = C.mtx l mo n i) ∧ Hid (C.Om wr w.heap.size v7 rs) ∧ Hid (Below w.heap.size w wr)) (fun _ _ v9 _ => n - (intOf v9).toNat)
  case atStart => exact ⟨0, 0, [], rfl, by omega, rfl, Lib.hid (fun _ => by simp), by omega, rfl, Lib.hid rfl, OM0, B0⟩
  case round =>
    clear OM0 B0 K0
    obtain ⟨i, k, rs, rfl, hin, rfl, hkk, hk1000, hrl, hmt, hom, hbl⟩ := hrel
    have HRL := Lib.hid hrl
    clear hrl
    by_cases hlt : i < n
    · have own0 := Lib.hid (World.ownsRow_lit (base := wr.heap.size) (e := 3) (size := 1) wr #[] 0 (Nat.le_refl _) (by decide) rfl)
      have B1 : Hid (Below wr.heap.size wr (wr.alloc (.cells #[] 3))) := Lib.hid ((Below.refl _ wr).alloc (Nat.le_refl _) _)
      go_wp2
      obtain ⟨wo, hwo⟩ : ∃ wo : World, wo = wr := ⟨_, rfl⟩
      rw [← hwo] at own0 B1 hom hbl ⊢
      clear hwo
      go_loopw [8, 10, 11] (fun v8 v10 v11 w3 => ∃ (j k : Nat), v11 = .int .i64 j ∧ j ≤ n ∧ v8 = .int .i64 k ∧ Hid (0 < l.length → k = i * n + j) ∧ k ≤ 1000 ∧ Hid (w3.ownsRow wo.heap.size 3 1 v10 j (C.ns (C.mrow l mo n i j))) ∧ Hid (Below wo.heap.size wo w3)) (fun _ _ v11 _ => n - (intOf v11).toNat)
      case atStart => exact ⟨0, k, rfl, by omega, rfl, Lib.hid (fun h => by rw [hkk.out h]; simp), hk1000, own0, B1⟩
      case round =>
        clear own0 B1 hkk hk1000
        obtain ⟨j, k, rfl, hjn, rfl, hkk, hk1000, hown, hb3⟩ := hrel
        by_cases hjl : j < n
        · have hin12 : i * n + j < 144 := by
            have : i * n + n ≤ 12 * n := by
              have := Nat.mul_le_mul_right n (show i + 1 ≤ 12 by omega)
              rw [Nat.succ_mul] at this
              exact this
            have : 12 * n ≤ 144 := by omega
            omega
          by_cases h0 : 0 < l.length
          · have hk := hkk.out h0
            have hk9 : k ≤ 143 := by omega
            obtain ⟨b2, o2, rfl, hb2, h2⟩ := C.nums_at HR.out h0
            obtain ⟨t, ht⟩ : ∃ t, k % l.length = t := ⟨_, rfl⟩
            have htl : t < l.length := by rw [← ht]; exact Nat.mod_lt _ h0
            have x0 := ((hbl.out.trans (hb3.out.mono hbl.out.size)).cell (p := ⟨b2, o2 + t, none⟩) (Nat.lt_of_lt_of_le hb2 hB)).trans (h2 t htl)
            have kt : (k : Int) % (l.length : Int) = (t : Int) := by rw [← ht]; omega
            have q1 : (0 : Int) ≤ (t : Int) := by omega
            have q2 : (t : Int) < (l.length : Int) := by omega
            have q3 : (0 : Int) < (l.length : Int) := by omega
            generalize hlv : l[t] = lv at *
            obtain ⟨y, hy⟩ : ∃ y, lv.tmod (mo + 1) = y := ⟨_, rfl⟩
            have HE : Hid (C.entry l mo (i * n + j) = C.abs y) := Lib.hid (by
              unfold C.entry
              rw [if_neg (by omega), ← hk, ht, ← hy, ← hlv]
              congr 2
              simp [List.getD, htl])
            have hER : -1000 ≤ y ∧ y ≤ 1000 := by
              have := C.entry_range l hm1 (i * n + j)
              rw [HE.out] at this
              unfold C.abs at this
              split at this <;> omega
            have hk2 : Hid (0 < l.length → k + 1 = i * n + (j + 1)) := Lib.hid (fun _ => by omega)
            have hl0 : decide (0 < l.length) = true := decide_eq_true h0
            have hl0' : decide ((0 : Int) < (l.length : Int)) = true := decide_eq_true q3
            have kt2 : (k : Int).tmod (l.length : Int) = (t : Int) := by rw [Int.tmod_eq_emod_of_nonneg (by omega)]; exact kt
            have hmo : (mo + 1 == 0) = false := beq_eq_false_iff_ne.2 (by omega)
            clear h2 hkk hk ht hlv hin12
            by_cases hy0 : y < 0
            · have uy : IntKind.i64.wrap (-y) = -y := by simp [IntKind.wrap, IntKind.bits, IntKind.signed]; omega
              have HZ : Hid (C.entry l mo (i * n + j) = -y) := Lib.hid (by rw [HE.out, C.abs, if_pos hy0])
              clear HE
              have own1 := hown.out.alloc (.cells #[.int .i64 (-y)] 3)
              have hsz := hb3.out.size
              go_wp2_with (at_builtin; refine wpList_append_any _ rfl (.tmp 44) (.tmp 46) 23 rfl wo.heap.size 3 i0 _ 1 8 Try.underlying23 hi hz0 hz1 hz2 rfl (by decide) u10 _ _ rfl own1 _ _ 1 1 [.int .i64 (-y)] rfl (reads_new _ [.int .i64 (-y)] 3) (by simp [Value.oneCell']) (by simp only [maxLen]; omega) (by omega) (by simp; omega) ?_; intro v' W2 hown' hgrow hnew)
              have OW2 : Hid (W2.ownsRow wo.heap.size 3 1 v' (j + 1) (C.ns (C.mrow l mo n i (j + 1)))) := Lib.hid (by
                rw [C.mrow_succ, HZ.out]
                simp only [C.ns, List.map_append, List.map_cons, List.map_nil]
                exact hown')
              have B2 : Hid (Below wo.heap.size wo W2) := Lib.hid ((hb3.out.alloc hb3.out.size _).grown hgrow (by simp; omega) (fun b e => (hown.out.lt b e).1))
              clear hown' hgrow hnew own1 hown hb3 HZ
              go_wp2
              go_roundw
              case rel => exact ⟨j + 1, k + 1, by go_num, by omega, by first | rfl | go_num, hk2, by omega, OW2, B2⟩
              case measure => simp [intOf] <;> omega
            · have HZ : Hid (C.entry l mo (i * n + j) = y) := Lib.hid (by rw [HE.out, C.abs, if_neg hy0])
              clear HE
              have own1 := hown.out.alloc (.cells #[.int .i64 (y)] 3)
              have hsz := hb3.out.size
              go_wp2_with (at_builtin; refine wpList_append_any _ rfl (.tmp 44) (.tmp 46) 23 rfl wo.heap.size 3 i0 _ 1 8 Try.underlying23 hi hz0 hz1 hz2 rfl (by decide) u10 _ _ rfl own1 _ _ 1 1 [.int .i64 (y)] rfl (reads_new _ [.int .i64 (y)] 3) (by simp [Value.oneCell']) (by simp only [maxLen]; omega) (by omega) (by simp; omega) ?_; intro v' W2 hown' hgrow hnew)
              have OW2 : Hid (W2.ownsRow wo.heap.size 3 1 v' (j + 1) (C.ns (C.mrow l mo n i (j + 1)))) := Lib.hid (by
                rw [C.mrow_succ, HZ.out]
                simp only [C.ns, List.map_append, List.map_cons, List.map_nil]
                exact hown')
              have B2 : Hid (Below wo.heap.size wo W2) := Lib.hid ((hb3.out.alloc hb3.out.size _).grown hgrow (by simp; omega) (fun b e => (hown.out.lt b e).1))
              clear hown' hgrow hnew own1 hown hb3 HZ
              go_wp2
              go_roundw
              case rel => exact ⟨j + 1, k + 1, by go_num, by omega, by first | rfl | go_num, hk2, by omega, OW2, B2⟩
              case measure => simp [intOf] <;> omega
          · have hl0 : decide (0 < l.length) = false := decide_eq_false h0
            have hl1 : l.length = 0 := by omega
            have HL1 := Lib.hid hl1
            have HZ : Hid (C.entry l mo (i * n + j) = 0) := Lib.hid (by unfold C.entry; rw [if_pos hl1])
            have hk2 : Hid (0 < l.length → k = i * n + (j + 1)) := Lib.hid (fun h => absurd h h0)
            clear hkk hl1 hin12
            have own1 := hown.out.alloc (.cells #[.int .i64 (0)] 3)
            have hsz := hb3.out.size
            go_wp2_with (at_builtin; refine wpList_append_any _ rfl (.tmp 44) (.tmp 46) 23 rfl wo.heap.size 3 i0 _ 1 8 Try.underlying23 hi hz0 hz1 hz2 rfl (by decide) u10 _ _ rfl own1 _ _ 1 1 [.int .i64 (0)] rfl (reads_new _ [.int .i64 (0)] 3) (by simp [Value.oneCell']) (by simp only [maxLen]; omega) (by omega) (by simp; omega) ?_; intro v' W2 hown' hgrow hnew)
            have OW2 : Hid (W2.ownsRow wo.heap.size 3 1 v' (j + 1) (C.ns (C.mrow l mo n i (j + 1)))) := Lib.hid (by
              rw [C.mrow_succ, HZ.out]
              simp only [C.ns, List.map_append, List.map_cons, List.map_nil]
              exact hown')
            have B2 : Hid (Below wo.heap.size wo W2) := Lib.hid ((hb3.out.alloc hb3.out.size _).grown hgrow (by simp; omega) (fun b e => (hown.out.lt b e).1))
            clear hown' hgrow hnew own1 hown hb3 HZ
            go_wp2
            go_roundw
            case rel => exact ⟨j + 1, k, by go_num, by omega, by first | rfl | go_num, hk2, by omega, OW2, B2⟩
            case measure => simp [intOf] <;> omega
        · obtain rfl : j = n := by omega
          obtain ⟨Ar, car, hv, hrdr⟩ := own_reads hown.out
          subst hv
          have hne : ((Value.slice Ar j car).ownBlock) ≠ none := by
            obtain ⟨g, cap, e⟩ := ownsRow_succ (k := j - 1) (by rw [show j - 1 + 1 = j by omega]; exact hown.out)
            rw [e]
            simp [Value.ownBlock]
          have HNE := Lib.hid hne
          have own2 := (own_under hom.out.out hb3.out).alloc (.cells #[.slice Ar j car] 23)
          have hsz := hb3.out.size
          have hsw := hbl.out.size
          rw [HRL.out] at own2
          have hk3 : Hid (0 < l.length → k = (i + 1) * j) := Lib.hid (fun h => by rw [hkk.out h, Nat.succ_mul])
          clear hne hrdr hkk
          go_wp2_with (at_builtin; refine wpList_append_any _ rfl (.tmp 48) (.tmp 50) 22 rfl w.heap.size 23 j0 _ 1 24 Try.underlying22 hj hj0 hj1 hj2 rfl (by decide) u7 _ _ rfl own2 _ _ 1 1 [.slice Ar j car] rfl (reads_new _ [.slice Ar j car] 23) (by simp [Value.oneCell']) (by simp only [maxLen]; omega) (by omega) (by simp; omega) ?_; intro v' W4 hown' hgrow hnew)
          have OM4 : Hid (C.Om W4 w.heap.size v' (rs ++ [(Ar, car, C.mrow l mo j i j)])) := Lib.hid (hom.out.push (r0 := (Ar, car, C.mrow l mo j i j)) hsw hb3.out (by unfold C.slv; simp only [C.mrow_len]; exact hown.out) (by unfold C.slv; simp only [C.mrow_len]; exact HNE.out) (by unfold C.slv; simp only [C.mrow_len]; rw [HRL.out]; exact hown') (by unfold C.slv; simp only [C.mrow_len]; exact hgrow) (by unfold C.slv; simp only [C.mrow_len]; exact hnew))
          have B4 : Hid (Below w.heap.size w W4) := Lib.hid (((hbl.out.trans (hb3.out.mono hsw)).alloc (by omega) _).grown hgrow (by simp; omega) (fun b e => (hom.out.out.lt b e).1))
          have MT4 : Hid (C.mt (rs ++ [(Ar, car, C.mrow l mo j i j)]) = C.mtx l mo j (i + 1)) := Lib.hid (by
            rw [C.mtx_succ, ← hmt.out]
            simp [C.mt])
          have RL4 : Hid ((rs ++ [(Ar, car, C.mrow l mo j i j)]).length = i + 1) := Lib.hid (by simp [HRL.out])
          clear hown' hgrow hnew own2 hown hb3 hom hbl hmt HNE
          go_wp2
          go_roundw
          case rel => exact ⟨i + 1, k, _, by go_num, hlt, rfl, hk3, by omega, RL4.out, MT4, OM4, B4⟩
          case measure => simp [intOf] <;> omega
    · obtain rfl : i = n := by omega
      go_wp2_with fail
      go_ret
      exact ⟨_, rs, rfl, hom.out, hmt.out, hbl.out⟩
end Go.Proofs.Ytnekhlklflgodaa
