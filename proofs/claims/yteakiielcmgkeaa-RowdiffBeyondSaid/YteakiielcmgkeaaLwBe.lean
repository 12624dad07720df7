/-
  The statements of layer 17: RowdiffBeyond. By an AI agent.
-/
import Derived.Test.YteakiielcmgkeaaLwp
import Derived.Test.YteakiielcmgkeaaApx
namespace Go.Proofs.Yteakiielcmgkeaa
set_option linter.unusedSimpArgs false
set_option linter.unusedVariables false
open Go.RowKit Go.Deep

theorem R.beyond (l more : List R.G) (row to : Int) (k : Nat) (h : l.length + k ≤ 264) : R.applyX l ⟨3, row, (l.length : Int) + (k : Int), 0, to, more⟩ = (R.trimEnd R.bl (l ++ List.replicate k R.sp ++ more), 0) := by
  have := R.applyX_good (l := l) (row := row) (to := to) (k := l.length + k) (d := 0) (gl := more) h (by omega)
  rw [Int.natCast_add] at this
  rw [show ((0 : Nat) : Int) = 0 from rfl] at this
  rw [this, List.take_of_length_le (by omega), show l.length + k - l.length = k by omega, List.drop_of_length_le (by omega), List.append_nil]
theorem R.beyond_bad (l more : List R.G) (row to : Int) (k : Nat) : R.applyX l ⟨3, row, (l.length : Int) + (k : Int), 1, to, more⟩ = ([], 2) := R.applyX_bad (by omega)
theorem R.beyond_kind (l more : List R.G) (row col count to : Int) : R.applyX l ⟨4, row, col, count, to, more⟩ = ([], 9) := R.applyX_kind (by decide)
theorem R.gcs_app2 (l m : List R.G) : R.gcs (l ++ m) = R.gcs l ++ R.gcs m := R.gcs_app l m
set_option maxRecDepth 100000 in
set_option maxHeartbeats 8000000 in
theorem beyond_any (A1 : Option Addr) (c1 : Nat) (l : List R.G) (A2 : Option Addr) (c2 : Nat) (more : List R.G) (by_ : Int) (w : World) (ha : Reads w w.heap.size 3 A1 l.length (R.gcs l)) (hla : l.length ≤ maxLen) (hca : l.length ≤ c1) (hb : Reads w w.heap.size 3 A2 more.length (R.gcs more)) (hlb : more.length ≤ maxLen) (hcb : more.length ≤ c2) (hn0 : 0 ≤ by_) (hn1 : by_ ≤ 255) :
    Calls Try.prog 10 #[.slice A1 l.length c1, .slice A2 more.length c2, .int .u8 by_] w fun e w' => e = .returned (.bool true) ∧ Below w.heap.size w w' := by
  have FN := Lib.hid (fine2_any A1 A2 c1 c2 l.length more.length w hla hlb)
  have b0 : Below w.heap.size w (w.alloc (.cells #[.slice A1 l.length c1, .slice A2 more.length c2] 22)) := (Below.refl _ _).alloc (Nat.le_refl _) _
  have B0 := Lib.hid b0
  have HA := Lib.hid ha
  have HB := Lib.hid hb
  obtain ⟨x, rfl⟩ : ∃ x : Nat, by_ = x := ⟨by_.toNat, by omega⟩
  obtain ⟨k, hk⟩ : ∃ k, x % 50 = k := ⟨_, rfl⟩
  have hk49 : k ≤ 49 := by omega
  have km : ((x : Int) % 50) = (k : Int) := by omega
  clear ha hb hla hlb hk
  cases hf : R.fine [l.length, more.length] with
  | false =>
    rw [hf] at FN
    clear hf b0
    go_enter Try.func10, Try.ntmps10
    go_wp2_with fail
    refine FN.out.mono ?_
    rintro e w1 ⟨rfl, rfl⟩
    go_wp2_with fail
    refine (awake_any _).mono ?_
    rintro e w5 ⟨rfl, b5⟩
    go_wp2_with fail
    go_ret
    exact ⟨rfl, B0.out.trans (b5.mono B0.out.size)⟩
  | true =>
  rw [hf] at FN
  obtain ⟨la, lb⟩ := R.fine2 hf
  obtain ⟨i0, hi0, hz0, hz1, hz2⟩ := info_parts infoG
  clear hf b0
  go_enter Try.func10, Try.ntmps10
  go_wp2_with fail
  refine FN.out.mono ?_
  rintro e w1 ⟨rfl, rfl⟩
  obtain ⟨W1, hW1⟩ : ∃ W, w.alloc (.cells #[.slice A1 l.length c1, .slice A2 more.length c2] 22) = W := ⟨_, rfl⟩
  rw [hW1] at B0 ⊢
  rw [km]
  clear hW1 FN km
  have own0 := World.ownsRow_lit (base := W1.heap.size) (e := 33) (size := 3) W1 #[] 0 (Nat.le_refl _) (by decide) rfl
  have hb0 : Below W1.heap.size W1 (W1.alloc (.cells #[] 33)) := (Below.refl _ _).alloc (Nat.le_refl _) _
  have r1 := HA.out.below (B0.out.trans (hb0.mono B0.out.size)) (Nat.le_refl _)
  go_wp2_with (at_builtin; refine wpList_append_any _ rfl (.tmp 24) (.tmp 25) 22 rfl W1.heap.size 33 i0 _ 3 32 Try.underlying22 hi0 hz0 hz1 hz2 rfl (by decide) (.slice (some ⟨W1.heap.size, 0, none⟩) 0 0) 0 [] rfl own0 _ A1 l.length c1 (R.gcs l) rfl r1 (R.gcs_one _) (by simp only [maxLen]; omega) (by omega) hb0.size ?_; intro v2 W2 hown2 hg2 hn2; (have OWN2 : Hid (W2.ownsRow W1.heap.size 33 3 v2 (l.length + 0) (R.gcs (l ++ List.replicate 0 R.sp))) := Lib.hid (by simpa using hown2)); (have BB2 := Lib.hid (hb0.grown hg2 hb0.size (own_below own0 (Nat.le_refl _)))); (clear own0 hb0 r1 hown2 hg2 hn2))
  go_loopw [8, 28] (fun v7 v19 wr => ∃ n : Nat, n ≤ k ∧ v19 = .int .i64 n ∧ Hid (wr.ownsRow W1.heap.size 33 3 v7 (l.length + n) (R.gcs (l ++ List.replicate n R.sp))) ∧ Hid (Below W1.heap.size W1 wr)) (fun _ v _ => k - (intOf v).toNat)
  case atStart => exact ⟨0, Nat.zero_le _, rfl, OWN2, BB2⟩
  case round =>
    clear OWN2 BB2
    obtain ⟨n, hn, rfl, hown, hbl⟩ := hrel
    obtain ⟨vo, hvo⟩ : ∃ v, u8 = v := ⟨_, rfl⟩
    rw [hvo] at hown ⊢
    clear hvo
    by_cases hlt : n < k
    · have HS : Hid (R.gcs (l ++ List.replicate (n + 1) R.sp) = R.gcs (l ++ List.replicate n R.sp) ++ [.string ⟨#[32]⟩, .bool false, .int .i64 0]) := Lib.hid (by rw [List.replicate_succ', ← List.append_assoc, R.gcs_sp])
      go_wp2_with (at_builtin; refine wpList_append_any _ rfl (.tmp 30) (.tmp 32) 22 rfl W1.heap.size 33 i0 _ 3 32 Try.underlying22 hi0 hz0 hz1 hz2 rfl (by decide) vo (l.length + n) _ rfl (hown.out.alloc _) _ (some ⟨wr.heap.size, 0, none⟩) 1 1 [.string ⟨#[32]⟩, .bool false, .int .i64 0] rfl (reads_gl3 wr ⟨#[32]⟩) (by simp [Value.oneCell']) (by simp only [maxLen]; omega) (by omega) (Nat.le_trans hbl.out.size (by simp)) ?_; intro v3 W3 hown3 hg3 hn3)
      exact ⟨⟨n + 1, by omega, by go_num, Lib.hid (by rw [HS.out]; exact hown3), Lib.hid ((hbl.out.alloc hbl.out.size _).grown hg3 (Nat.le_trans hbl.out.size (by simp)) (fun b e => (hown.out.lt b e).1))⟩, by simp [intOf]; omega⟩
    · obtain rfl : n = k := by omega
      have q2 : decide (n < n) = false := decide_eq_false (by omega)
      have rm := HB.out.below (B0.out.trans (hbl.out.mono B0.out.size)) (Nat.le_refl _)
      have hw1 : w.heap.size ≤ W1.heap.size := B0.out.size
      have BM := R.gcs_one more
      obtain ⟨X, hX⟩ : ∃ X, X = l ++ List.replicate n R.sp ++ more := ⟨_, rfl⟩
      have HX := Lib.hid hX
      have HXL : Hid (X.length = l.length + n + more.length) := Lib.hid (by rw [hX]; simp only [List.length_append, List.length_replicate])
      have hxb : X.length ≤ 200 := by rw [HXL.out]; omega
      have EQ1 : Hid (R.applyX l ⟨3, 0, (l.length : Int) + (n : Int), 0, 0, more⟩ = (R.trimEnd R.bl X, 0)) := Lib.hid (by rw [R.beyond l more 0 0 n (by omega), hX])
      have htx := trim_len X
      have BM := Lib.hid BM
      clear hX
      go_wp2_with (at_builtin; refine wpList_append_any _ rfl (.tmp 35) (.tmp 36) 22 rfl W1.heap.size 33 i0 _ 3 32 Try.underlying22 hi0 hz0 hz1 hz2 rfl (by decide) vo (l.length + n) _ rfl hown.out _ A2 more.length c2 (R.gcs more) rfl rm BM.out (by simp only [maxLen]; omega) (by omega) hbl.out.size ?_; intro v4 W4 hown4 hg4 hn4; (rw [← R.gcs_app2, ← HX.out, ← HXL.out] at hown4); (have B4 := Lib.hid (B0.out.trans ((hbl.out.grown hg4 hbl.out.size (fun b e => (hown.out.lt b e).1)).mono hw1))); (obtain ⟨A4, c4, rfl, r4, hc4⟩ := own_reads_cap hown4); (have R4 := Lib.hid r4); (clear hown4 hg4 hn4 r4 hown hbl rm))
      have AP1 := apply_any A1 c1 w.heap.size l ⟨⟨3, 0, (l.length : Int) + (n : Int), 0, 0, more⟩, .slice A2 more.length c2⟩ A2 c2 W4 rfl (HA.out.below B4.out (Nat.le_refl _)) (HB.out.below B4.out (Nat.le_refl _)) B4.out.size (by omega) hca (by simp only; omega) (by simp only; omega) (by simp only; omega)
      dsimp only at AP1
      rw [EQ1.out] at AP1
      have AP1 := Lib.hid AP1
      simp only [R.Cs.cells] at AP1
      refine AP1.out.mono ?_
      rintro e w5 ⟨v5, rfl, own5, b5⟩
      obtain ⟨A5, c5, rfl, r5, _⟩ := own_reads_cap own5
      have R5 := Lib.hid r5
      have R45 := Lib.hid ((R4.out.below b5 (Nat.le_refl _)).more b5.size)
      have B5 := Lib.hid (B4.out.trans (b5.mono B4.out.size))
      have AP2 := apply_any A1 c1 w.heap.size l ⟨⟨3, 0, (l.length : Int) + (n : Int), 1, 0, more⟩, .slice A2 more.length c2⟩ A2 c2 w5 rfl (HA.out.below B5.out (Nat.le_refl _)) (HB.out.below B5.out (Nat.le_refl _)) B5.out.size (by omega) hca (by simp only; omega) (by simp only; omega) (by simp only; omega)
      dsimp only at AP2
      rw [R.beyond_bad] at AP2
      have AP2 := Lib.hid AP2
      simp only [R.Cs.cells] at AP2
      clear AP1 own5 r5 b5 R4 B4 EQ1
      go_wp2_with fail
      refine AP2.out.mono ?_
      rintro e w6 ⟨v6, rfl, own6, b6⟩
      obtain ⟨A6, c6, hv6, _, _⟩ := own_reads_cap (show w6.ownsRow w5.heap.size 33 3 v6 0 [] from own6)
      subst hv6
      have B6 := Lib.hid (B5.out.trans (b6.mono B5.out.size))
      have R5' := Lib.hid ((R5.out.below b6 (Nat.le_refl _)).more b6.size)
      have R46 := Lib.hid ((R45.out.below b6 (Nat.le_refl _)).more b6.size)
      have AP3 := apply_any A1 c1 w.heap.size l ⟨⟨4, 0, (l.length : Int) + (n : Int), 0, 0, more⟩, .slice A2 more.length c2⟩ A2 c2 w6 rfl (HA.out.below B6.out (Nat.le_refl _)) (HB.out.below B6.out (Nat.le_refl _)) B6.out.size (by omega) hca (by simp only; omega) (by simp only; omega) (by simp only; omega)
      dsimp only at AP3
      rw [R.beyond_kind] at AP3
      have AP3 := Lib.hid AP3
      simp only [R.Cs.cells] at AP3
      clear AP2 own6 b6 R5 R45 B5
      go_wp2_with fail
      refine AP3.out.mono ?_
      rintro e w7 ⟨v7, rfl, own7, b7⟩
      have B7 := Lib.hid (B6.out.trans (b7.mono B6.out.size))
      have R57 := Lib.hid ((R5'.out.below b7 (Nat.le_refl _)).more b7.size)
      have R47 := Lib.hid ((R46.out.below b7 (Nat.le_refl _)).more b7.size)
      have TR := Lib.hid (trim_any A4 c4 w7.heap.size X w7 R47.out (Nat.le_refl _) (by omega) hc4)
      clear AP3 own7 b7 R5' R46 B6
      go_wp2_with fail
      refine TR.out.mono ?_
      rintro e w8 ⟨v8, rfl, own8, b8⟩
      obtain ⟨A8, c8, rfl, r8, _⟩ := own_reads_cap own8
      have SG := sameglyphs_any A5 A8 c5 c8 w8.heap.size (R.trimEnd R.bl X) (R.trimEnd R.bl X) w8 ((R57.out.below b8 (Nat.le_refl _)).more b8.size) r8 (by omega) (by omega)
      rw [decide_eq_true rfl] at SG
      have SG := Lib.hid SG
      have B8 := Lib.hid (B7.out.trans (b8.mono B7.out.size))
      clear TR own8 r8 b8 R57 R47 B7
      go_wp2_with fail
      refine SG.out.mono ?_
      rintro e w9 ⟨rfl, q, rfl⟩
      go_wp2_with fail
      refine (awake_any _).mono ?_
      rintro e w12 ⟨rfl, b12⟩
      go_wp2_with fail
      go_ret
      exact ⟨rfl, (below_drewN B8.out q).trans (b12.mono (below_drewN B8.out q).size)⟩
end Go.Proofs.Yteakiielcmgkeaa
