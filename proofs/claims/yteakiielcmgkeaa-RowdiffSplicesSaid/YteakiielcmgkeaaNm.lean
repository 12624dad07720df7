/-
  The walks of layer 17: the reference's numbers. By an AI agent.
-/
import Derived.Test.YteakiielcmgkeaaRscI
import Derived.Test.YteakiielcmgkeaaSlc
import Derived.Test.YteakiielcmgkeaaPlain2
import Derived.Test.YteakiielcmgkeaaPn
import Derived.Test.YteakiielcmgkeaaOwn
namespace Go.Proofs.Yteakiielcmgkeaa
set_option linter.unusedSimpArgs false
set_option linter.unusedVariables false
open Go.RowKit Go.Deep

theorem Reads.take1 {w : World} {B n k : Nat} {A : Option Addr} {xs : List Value} (h : Reads w B 1 A n xs) (hk : k ≤ n) : Reads w B 1 A k (xs.take k) := by
  refine ⟨by rw [List.length_take, h.1]; omega, fun hn => ?_⟩
  obtain ⟨ad, e, hb, hc⟩ := h.2 (by omega)
  refine ⟨ad, e, hb, fun j u hu => hc j u ?_⟩
  rw [List.getElem?_take] at hu
  split at hu
  · exact hu
  · cases hu
theorem slice1_upto (A : Option Addr) {l c n : Nat} (hn : n ≤ l) (hc : l ≤ c) : ∀ w' : World, (Instr.sliceAt 50 (.slice A l c) none (some (.int .i64 (n : Int))) none).run Try.prog w' = .ok (.slice A n c) w' := by
  intro w'
  have ht : Try.prog.underlying 50 = some (.slice (Try.prog.elem 50)) := by kernel_rfl
  have hs : (sizeOf (Try.prog.elem 50)).run Try.prog w' = .ok 1 w' := by kernel_rfl
  rw [run_sliceAt_slice _ _ _ _ _ _ ht, run_slice_h _ _ _ _ _ ht .i64 (n : Int) (by omega) (by omega), hs]
  simp only [Result.andThen, sliced, Nat.zero_mul, Int.toNat_natCast, Nat.sub_zero]
  cases A <;> simp [addr_add_zero]
theorem slice1_from (A : Option Addr) (xs : List Value) {l c k : Nat} (hk : k ≤ l) (hc : l ≤ c) :
    ∃ A', (∀ w' : World, (Instr.sliceAt 50 (.slice A l c) (some (.int .i64 (k : Int))) none none).run Try.prog w' = .ok (.slice A' (l - k) (c - k)) w') ∧ ∀ w B, Reads w B 1 A l xs → Reads w B 1 A' (l - k) (xs.drop k) := by
  refine ⟨if c = k then A else A.map (·.add (k * 1)), fun w' => ?_, fun w B h => ?_⟩
  · have ht : Try.prog.underlying 50 = some (.slice (Try.prog.elem 50)) := by kernel_rfl
    have hs : (sizeOf (Try.prog.elem 50)).run Try.prog w' = .ok 1 w' := by kernel_rfl
    rw [run_sliceAt_slice _ _ _ _ _ _ ht, run_slice_l _ _ _ _ _ ht .i64 (k : Int) (by omega) (by omega), hs]
    simp only [Result.andThen, sliced, Int.toNat_natCast]
  · refine ⟨by rw [List.length_drop, h.1]; omega, fun hn => ?_⟩
    obtain ⟨ad, rfl, hb, hc⟩ := h.2 (by omega)
    rw [if_neg (by omega)]
    refine ⟨ad.add (k * 1), rfl, by rw [block_of_add]; exact hb, fun j u hu => ?_⟩
    rw [add_of_add]
    refine hc _ u ?_
    rw [List.getElem?_drop] at hu
    rw [Nat.mul_one]; exact hu
/-- The numbers of glyphs. -/
def R.nums (all l : List R.G) : List Value := E.ns (l.map fun g => (R.num all g : Int))
theorem R.nums_snoc (all : List R.G) {k m : Nat} (h : k < all.length) (e : R.num all all[k] = m) : R.nums all (all.take k) ++ [.int .i64 (m : Int)] = R.nums all (all.take (k + 1)) := by
  rw [List.take_succ_eq_append_getElem h]
  simp only [R.nums, E.ns, List.map_append, List.map_cons, List.map_nil, e]
def R.NOut (a b : List R.G) (w w' : World) (e : Ending) : Prop := ∃ A c A' c', e = .returned (.tuple #[.slice A a.length c, .slice A' b.length c']) ∧ Reads w' w'.heap.size 1 A a.length (R.nums (a ++ b) a) ∧ Reads w' w'.heap.size 1 A' b.length (R.nums (a ++ b) b) ∧ Below w.heap.size w w'
set_option maxRecDepth 100000 in
set_option maxHeartbeats 8000000 in
theorem numbers_any (A1 A2 : Option Addr) (c1 c2 B : Nat) (a b : List R.G) (w : World) (ha : Reads w B 3 A1 a.length (R.gcs a)) (hb : Reads w B 3 A2 b.length (R.gcs b)) (hB : B ≤ w.heap.size) (hla : a.length ≤ 1000) (hlb : b.length ≤ 1000) :
    Calls Try.prog 29 #[.slice A1 a.length c1, .slice A2 b.length c2] w fun e w' => R.NOut a b w w' e := by
  obtain ⟨i0, hi0, hz0, hz1, hz2⟩ := info_parts infoG
  obtain ⟨j0, hj0, hy0, hy1, hy2⟩ := info_parts Try.info3
  obtain ⟨l, hl⟩ : ∃ l, l = a ++ b := ⟨_, rfl⟩
  have own0 := World.ownsRow_lit (base := w.heap.size) (e := 33) (size := 3) w #[] 0 (Nat.le_refl _) (by decide) rfl
  have hb0 : Below w.heap.size w (w.alloc (.cells #[] 33)) := (Below.refl _ _).alloc (Nat.le_refl _) _
  have r1 := ha.below hb0 hB
  have HB := Lib.hid hb
  have HL : Hid (l = a ++ b) := Lib.hid hl
  have HLL : Hid (l.length = a.length + b.length) := Lib.hid (by rw [hl, List.length_append])
  have HGC : Hid (R.gcs l = R.gcs a ++ R.gcs b) := Lib.hid (by rw [hl]; simp [R.gcs])
  have hl2 : l.length ≤ 2000 := by rw [HLL.out]; omega
  have hal : a.length ≤ l.length := by rw [HLL.out]; omega
  clear ha hb hl
  go_enter Try.func29, Try.ntmps29
  go_wp2_with (first
    | (at_builtin; refine wpList_append_any _ rfl (.tmp 11) (.tmp 12) 22 rfl w.heap.size 33 i0 _ 3 32 Try.underlying22 hi0 hz0 hz1 hz2 rfl (by decide) (.slice (some ⟨w.heap.size, 0, none⟩) 0 0) 0 [] rfl own0 _ A1 a.length c1 (R.gcs a) rfl r1 (R.gcs_one _) (by simp only [maxLen]; omega) (by omega) hb0.size ?_; intro v2 W2 hown2 hg2 hn2; (have OWN2 : Hid (W2.ownsRow w.heap.size 33 3 v2 a.length (R.gcs a)) := Lib.hid (by simpa using hown2)); (have BB2 := Lib.hid (hb0.grown hg2 hb0.size (own_below own0 (Nat.le_refl _)))); (clear own0 hb0 r1 hown2 hg2 hn2))
    | (at_builtin; refine wpList_append_any _ rfl (.tmp 13) (.tmp 14) 22 rfl w.heap.size 33 i0 _ 3 32 Try.underlying22 hi0 hz0 hz1 hz2 rfl (by decide) v2 a.length _ rfl OWN2.out _ A2 b.length c2 (R.gcs b) rfl (HB.out.below BB2.out hB) (R.gcs_one _) (by simp only [maxLen]; omega) (by omega) BB2.out.size ?_; intro v3 W3 hown3 hg3 hn3; (have BB3 := Lib.hid (BB2.out.grown hg3 BB2.out.size (fun b e => (OWN2.out.lt b e).1))); (rw [← HLL.out, ← HGC.out] at hown3); (obtain ⟨Aa, ca, rfl, ra, _⟩ := own_reads_cap hown3); (have RA := Lib.hid ra); (have own4 := Lib.hid (World.ownsRow_lit (base := W3.heap.size) (e := 3) (size := 1) W3 #[] 0 (Nat.le_refl _) (by decide) rfl)); (have hb4 : Hid (Below W3.heap.size W3 (W3.alloc (.cells #[] 3))) := Lib.hid ((Below.refl _ _).alloc (Nat.le_refl _) _)); (clear OWN2 BB2 hown3 hg3 hn3 ra)))
  go_loopw [7, 8] (fun v i wr => ∃ k : Nat, k ≤ l.length ∧ i = .int .i64 k ∧ Hid (wr.ownsRow W3.heap.size 3 1 v k (R.nums l (l.take k))) ∧ Hid (Below W3.heap.size W3 wr)) (fun _ i _ => l.length - (intOf i).toNat)
  case atStart => exact ⟨0, Nat.zero_le _, rfl, Lib.hid (by simpa [R.nums, E.ns] using own4.out), hb4⟩
  case round =>
    clear own4 hb4
    obtain ⟨k, hk, rfl, hown, hbl⟩ := hrel
    obtain ⟨vo, hvo⟩ : ∃ v, u7 = v := ⟨_, rfl⟩
    rw [hvo] at hown ⊢
    clear hvo
    by_cases hlt : k < l.length
    · obtain ⟨b1, o1, rfl, hb1, h1⟩ := (RA.out.below hbl.out (Nat.le_refl _)).gl (by omega)
      have H1 := Lib.hid h1
      have HNS := Lib.hid (fun m => R.nums_snoc l (m := m) hlt)
      have hk1 : (0 : Int) ≤ (k : Int) := by omega
      have hk2 : (k : Int) < (l.length : Int) := by omega
      clear h1
      obtain ⟨wo, hwo⟩ : ∃ wo, wr = wo := ⟨_, rfl⟩
      rw [hwo] at hown hbl H1 ⊢
      clear hwo
      go_wp2_with fail
      go_loopw [9, 10] (fun v9 v10 wi => ∃ j : Nat, j ≤ k ∧ v9 = .int .i64 k ∧ v10 = .int .i64 j ∧ Hid (∀ j' (h : j' < j) (h2 : j' < l.length), l[j'] ≠ l[k]) ∧ ∃ n, wi = wo.drewN n) (fun _ v _ => k - (intOf v).toNat)
      case atStart => exact ⟨0, Nat.zero_le _, rfl, rfl, Lib.hid (fun j' h => absurd h (by omega)), 0, rfl⟩
      case round =>
        obtain ⟨j, hj, rfl, rfl, hprev, n, rfl⟩ := hrel
        by_cases hjk : j < k
        · obtain ⟨x0, xa, xb⟩ := H1.out j (by omega)
          obtain ⟨y0, ya, yb⟩ := H1.out k hlt
          have q1 : (0 : Int) ≤ (j : Int) := by omega
          have q2 : (j : Int) < (l.length : Int) := by omega
          by_cases hxy : l[j] = l[k]
          · have HM : Hid (R.num l l[k] = j) := Lib.hid (R.num_eq (by omega) hxy (fun j' h' => hprev.out j' h' (by omega)))
            have HSN := Lib.hid (HNS.out j HM.out)
            rw [hxy] at x0 xa xb
            have EQ := R.eq_yes l[k]
            clear hxy hprev HM HNS
            generalize l[k] = y at *
            go_wp2_with fail
            go_quiet (fail)
            obtain ⟨w2, hw2⟩ : ∃ w2, (wo.drewN n).drewN nq = w2 := ⟨_, rfl⟩
            have hown2 : w2.ownsRow W3.heap.size 3 1 vo k (R.nums l (l.take k)) := by rw [← hw2]; exact hown.out
            have hbl2 : Below W3.heap.size W3 w2 := by rw [← hw2]; exact below_drewN (below_drewN hbl.out n) nq
            rw [hw2]
            clear hw2 hown hbl
            go_wp2_with (at_builtin; refine wpList_append_any _ rfl (.tmp 39) (.tmp 41) 50 rfl W3.heap.size 3 j0 _ 1 8 Try.underlying50 hj0 hy0 hy1 hy2 rfl (by decide) vo k _ rfl (hown2.alloc _) _ (some ⟨w2.heap.size, 0, none⟩) 1 1 [.int .i64 (j : Int)] rfl (reads_new w2 [.int .i64 (j : Int)] 3) (by simp [Value.oneCell']) (by simp only [maxLen]; omega) (by omega) (Nat.le_trans hbl2.size (by simp)) ?_; intro v4 W4 hown4 hg4 hn4)
            exact ⟨⟨k + 1, hlt, by go_num, Lib.hid (by rw [← HSN.out]; exact hown4), Lib.hid ((hbl2.alloc hbl2.size _).grown hg4 (Nat.le_trans hbl2.size (by simp)) (fun b e => (hown2.lt b e).1))⟩, by simp [intOf]; omega⟩
          · have hp2 : Hid (∀ j' (h : j' < j + 1) (h2 : j' < l.length), l[j'] ≠ l[k]) := Lib.hid (fun j' h' h2 => by
              by_cases e : j' = j
              · subst e; exact hxy
              · exact hprev.out j' (by omega) h2)
            have EQ := R.eq_no hxy
            clear hxy hprev
            generalize l[j] = x at *
            generalize l[k] = y at *
            go_wp2_with fail
            go_quiet (fail)
            go_wp2_with fail
            go_roundw
            case rel => exact ⟨j + 1, hjk, rfl, by go_num, hp2, n + nq, by simp⟩
            case measure => simp [intOf] <;> omega
        · obtain rfl : j = k := by omega
          have HM : Hid (R.num l l[j] = j) := Lib.hid (R.num_eq hlt rfl (fun j' h' => hprev.out j' h' (by omega)))
          have HSN := Lib.hid (HNS.out j HM.out)
          have q2 : decide (j < j) = false := decide_eq_false (by omega)
          clear hprev HM HNS
          obtain ⟨w2, hw2⟩ : ∃ w2, wo.drewN n = w2 := ⟨_, rfl⟩
          have hown2 : w2.ownsRow W3.heap.size 3 1 vo j (R.nums l (l.take j)) := by rw [← hw2]; exact hown.out
          have hbl2 : Below W3.heap.size W3 w2 := by rw [← hw2]; exact below_drewN hbl.out n
          rw [hw2]
          clear hw2 hown hbl
          go_wp2_with (at_builtin; refine wpList_append_any _ rfl (.tmp 39) (.tmp 41) 50 rfl W3.heap.size 3 j0 _ 1 8 Try.underlying50 hj0 hy0 hy1 hy2 rfl (by decide) vo j _ rfl (hown2.alloc _) _ (some ⟨w2.heap.size, 0, none⟩) 1 1 [.int .i64 (j : Int)] rfl (reads_new w2 [.int .i64 (j : Int)] 3) (by simp [Value.oneCell']) (by simp only [maxLen]; omega) (by omega) (Nat.le_trans hbl2.size (by simp)) ?_; intro v4 W4 hown4 hg4 hn4)
          exact ⟨⟨j + 1, hlt, by go_num, Lib.hid (by rw [← HSN.out]; exact hown4), Lib.hid ((hbl2.alloc hbl2.size _).grown hg4 (Nat.le_trans hbl2.size (by simp)) (fun b e => (hown2.lt b e).1))⟩, by simp [intOf]; omega⟩
    · obtain rfl : k = l.length := by omega
      have q2 : decide (l.length < l.length) = false := decide_eq_false (by omega)
      have hbs := hbl.out.size
      obtain ⟨Ao, co, rfl, ro, hco⟩ := own_reads_cap hown.out
      have s1 := slice1_upto Ao (n := a.length) hal hco
      obtain ⟨A', s2, rd2⟩ := slice1_from Ao (R.nums l (l.take l.length)) hal hco
      have e1 : l.length - a.length = b.length := by rw [HLL.out]; omega
      rw [e1] at s2 rd2
      have e2 : (R.nums l (l.take l.length)).take a.length = R.nums (a ++ b) a := by rw [List.take_length, HL.out]; simp [R.nums, E.ns]
      have e3 : (R.nums l (l.take l.length)).drop a.length = R.nums (a ++ b) b := by rw [List.take_length, HL.out]; simp [R.nums, E.ns]
      have R1 := Lib.hid (ro.take1 hal)
      have R2 := Lib.hid (rd2 _ _ ro)
      rw [e2] at R1
      rw [e3] at R2
      have BW := Lib.hid (BB3.out.trans (hbl.out.mono BB3.out.size))
      have ha0 : (0 : Int) ≤ (a.length : Int) := by omega
      clear e1 e2 e3 rd2 ro hown hbl RA
      go_wp2_with fail
      go_quiet (fail)
      go_wp2_with fail
      go_ret2
      exact ⟨_, _, _, _, rfl, R1.out, R2.out, below_drewN BW.out _⟩
end Go.Proofs.Yteakiielcmgkeaa
