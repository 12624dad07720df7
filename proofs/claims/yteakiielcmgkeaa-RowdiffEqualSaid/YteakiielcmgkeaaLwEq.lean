/-
  The statements of layer 17: RowdiffEqual. By an AI agent.
-/
import Derived.Test.YteakiielcmgkeaaAw
namespace Go.Proofs.Yteakiielcmgkeaa
open Go.RowKit Go.Deep

theorem R.rep_succ (a : List R.G) (k : Nat) : R.gcs (a ++ List.replicate (k + 1) R.sp) = R.gcs (a ++ List.replicate k R.sp) ++ [.string ⟨#[32]⟩, .bool false, .int .i64 0] := by
  rw [List.replicate_succ', ← List.append_assoc]
  unfold R.gcs
  rw [List.flatMap_append]
  rfl
theorem R.sp_nil {row : Int} {a b : List R.G} {xs : List R.Cs} (h : xs.map (·.c) = (R.splices R.bl a b).map (R.Cx.of row)) : ((xs.length : Int) == 0) = decide (R.trimEnd R.bl a = R.trimEnd R.bl b) := by
  have hl : xs.length = (R.splices R.bl a b).length := by have := congrArg List.length h; simpa using this
  rw [Bool.eq_iff_iff, beq_iff_eq, decide_eq_true_iff, ← R.splices_nil_iff R.bl a b, hl]
  constructor
  · intro h; exact List.eq_nil_of_length_eq_zero (by omega)
  · intro h; rw [h]; rfl
set_option maxRecDepth 100000 in
set_option maxHeartbeats 8000000 in
theorem equal_any (A1 : Option Addr) (c1 : Nat) (a : List R.G) (A2 : Option Addr) (c2 : Nat) (b : List R.G) (by_ : Int) (w : World) (ha : Reads w w.heap.size 3 A1 a.length (R.gcs a)) (hla : a.length ≤ maxLen) (hca : a.length ≤ c1) (hb : Reads w w.heap.size 3 A2 b.length (R.gcs b)) (hlb : b.length ≤ maxLen) (hcb : b.length ≤ c2) (hn0 : 0 ≤ by_) (hn1 : by_ ≤ 255) :
    Calls Try.prog 4 #[.slice A1 a.length c1, .slice A2 b.length c2, .int .u8 by_] w fun e w' => e = .returned (.bool true) ∧ Below w.heap.size w w' := by
  have FN := Lib.hid (fine2_any A1 A2 c1 c2 a.length b.length w hla hlb)
  have b0 : Below w.heap.size w (w.alloc (.cells #[.slice A1 a.length c1, .slice A2 b.length c2] 22)) := (Below.refl _ _).alloc (Nat.le_refl _) _
  have B0 := Lib.hid b0
  have HA := Lib.hid ha
  have HB := Lib.hid hb
  clear ha hb hla hlb
  cases hf : R.fine [a.length, b.length] with
  | false =>
    rw [hf] at FN
    clear hf b0
    go_enter Try.func4, Try.ntmps4
    go_wp2_with fail
    refine FN.out.mono ?_
    rintro e w1 ⟨rfl, rfl⟩
    go_wp2_with fail
    refine (awake_any _).mono ?_
    rintro e w5 ⟨rfl, b5⟩
    go_wp2_with fail
    go_ret
    exact ⟨rfl, B0.out.trans (b5.mono B0.out.size)⟩
  | true =>
  rw [hf] at FN
  obtain ⟨la, lb⟩ := R.fine2 hf
  obtain ⟨x, rfl⟩ : ∃ x : Nat, by_ = x := ⟨by_.toNat, by omega⟩
  obtain ⟨i0, hi0, hz0, hz1, hz2⟩ := info_parts infoG
  clear hf b0
  go_enter Try.func4, Try.ntmps4
  go_wp2_with fail
  refine FN.out.mono ?_
  rintro e w1 ⟨rfl, rfl⟩
  obtain ⟨W1, hW1⟩ : ∃ W, w.alloc (.cells #[.slice A1 a.length c1, .slice A2 b.length c2] 22) = W := ⟨_, rfl⟩
  rw [hW1] at B0 ⊢
  clear hW1 FN
  have own0 := World.ownsRow_lit (base := W1.heap.size) (e := 33) (size := 3) W1 #[] 0 (Nat.le_refl _) (by decide) rfl
  have hb0 : Below W1.heap.size W1 (W1.alloc (.cells #[] 33)) := (Below.refl _ _).alloc (Nat.le_refl _) _
  have r1 := HA.out.below (B0.out.trans (hb0.mono B0.out.size)) (Nat.le_refl _)
  go_wp2_with (at_builtin; refine wpList_append_any _ rfl (.tmp 14) (.tmp 15) 22 rfl W1.heap.size 33 i0 _ 3 32 Try.underlying22 hi0 hz0 hz1 hz2 rfl (by decide) (.slice (some ⟨W1.heap.size, 0, none⟩) 0 0) 0 [] rfl own0 _ A1 a.length c1 (R.gcs a) rfl r1 (R.gcs_one _) (by simp only [maxLen]; omega) (by omega) hb0.size ?_; intro v2 W2 hown2 hg2 hn2; (have OWN2 : Hid (W2.ownsRow W1.heap.size 33 3 v2 (a.length + 0) (R.gcs (a ++ List.replicate 0 R.sp))) := Lib.hid (by simpa using hown2)); (have BB2 := Lib.hid (hb0.grown hg2 hb0.size (own_below own0 (Nat.le_refl _)))); (clear own0 hb0 r1 hown2 hg2 hn2); (have km : ((x : Int) % 9) = ((x % 9 : Nat) : Int) := (by omega)))
  obtain ⟨r, hr⟩ : ∃ r, x % 9 = r := ⟨_, rfl⟩
  have hr8 : r ≤ 8 := by omega
  rw [km, hr]
  clear km hr
  go_loopw [7, 19] (fun v7 v19 wr => ∃ k : Nat, k ≤ r ∧ v19 = .int .u8 k ∧ Hid (wr.ownsRow W1.heap.size 33 3 v7 (a.length + k) (R.gcs (a ++ List.replicate k R.sp))) ∧ Hid (Below W1.heap.size W1 wr)) (fun _ v _ => r - (intOf v).toNat)
  case atStart => exact ⟨0, Nat.zero_le _, rfl, OWN2, BB2⟩
  case round =>
    clear OWN2 BB2
    obtain ⟨k, hk, rfl, hown, hbl⟩ := hrel
    obtain ⟨vo, hvo⟩ : ∃ v, u7 = v := ⟨_, rfl⟩
    rw [hvo] at hown ⊢
    clear hvo
    by_cases hlt : k < r
    · have HS := Lib.hid (R.rep_succ a k)
      have u1 : IntKind.u8.wrap ((k : Int) + 1) = (k : Int) + 1 := by simp [IntKind.wrap, IntKind.bits, IntKind.signed]; omega
      go_wp2_with (at_builtin; refine wpList_append_any _ rfl (.tmp 21) (.tmp 23) 22 rfl W1.heap.size 33 i0 _ 3 32 Try.underlying22 hi0 hz0 hz1 hz2 rfl (by decide) vo (a.length + k) _ rfl (hown.out.alloc _) _ (some ⟨wr.heap.size, 0, none⟩) 1 1 [.string ⟨#[32]⟩, .bool false, .int .i64 0] rfl (reads_gl3 wr ⟨#[32]⟩) (by simp [Value.oneCell']) (by simp only [maxLen]; omega) (by omega) (Nat.le_trans hbl.out.size (by simp)) ?_; intro v3 W3 hown3 hg3 hn3)
      refine ⟨⟨k + 1, by omega, by go_num, Lib.hid (by rw [HS.out]; exact hown3), Lib.hid ((hbl.out.alloc hbl.out.size _).grown hg3 (Nat.le_trans hbl.out.size (by simp)) (fun b e => (hown.out.lt b e).1))⟩, by simp [intOf]; omega⟩
    · obtain rfl : k = r := by omega
      have q2 : decide (k < k) = false := decide_eq_false (by omega)
      have hwl : (a ++ List.replicate k R.sp).length = a.length + k := by simp
      have hwt : R.trimEnd R.bl (a ++ List.replicate k R.sp) = R.trimEnd R.bl a := R.trim_blanks R.bl a _ (fun y hy => by rw [List.eq_of_mem_replicate hy]; rfl)
      have hbw := B0.out.trans (hbl.out.mono B0.out.size)
      have SP1 := Lib.hid (splices_any A1 A2 c1 c2 w.heap.size 1 a b wr (HA.out.below hbw (Nat.le_refl _)) (HB.out.below hbw (Nat.le_refl _)) hbw.size (by omega) (by omega) hca hcb)
      obtain ⟨A3, c3, rfl, r3, h3⟩ := own_reads_cap hown.out
      have R3 := Lib.hid r3
      have HBW := Lib.hid hbw
      have T1 := Lib.hid (fun W (h : Below wr.heap.size wr W) => trim_any A1 c1 w.heap.size a W (HA.out.below (hbw.trans (h.mono hbw.size)) (Nat.le_refl _)) (Nat.le_trans hbw.size h.size) (by omega) hca)
      have T2 := Lib.hid (fun W (h : Below wr.heap.size wr W) => trim_any A2 c2 w.heap.size b W (HB.out.below (hbw.trans (h.mono hbw.size)) (Nat.le_refl _)) (Nat.le_trans hbw.size h.size) (by omega) hcb)
      have SP2 := Lib.hid (fun W (h : Below wr.heap.size wr W) => splices_any A1 A3 c1 c3 wr.heap.size 1 a (a ++ List.replicate k R.sp) W ((HA.out.below (hbw.trans (h.mono hbw.size)) (Nat.le_refl _)).more hbw.size) (by rw [hwl]; exact r3.below h (Nat.le_refl _)) h.size (by omega) (by rw [hwl]; omega) hca (by rw [hwl]; exact h3))
      rw [hwl] at SP2
      have hla := trim_len a
      have hlb := trim_len b
      have HWT := Lib.hid hwt
      clear hbw r3 hown hbl HA HB hwl hwt
      go_wp2_with fail
      refine SP1.out.mono ?_
      rintro e w3 ⟨v3, xs, rfl, own3, hx, b3⟩
      obtain ⟨A4, c4, rfl, _, _⟩ := own3.chs
      have E1 := Lib.hid (R.sp_nil hx)
      have B3 := Lib.hid b3
      have T1' := Lib.hid (T1.out w3 b3)
      obtain ⟨l1, hl1⟩ : ∃ l, xs.length = l := ⟨_, rfl⟩
      rw [hl1] at E1 ⊢
      clear SP1 own3 hx b3 hl1 T1
      go_wp2_with fail
      refine T1'.out.mono ?_
      rintro e w4 ⟨v4, rfl, own4, b4⟩
      obtain ⟨A5, c5, rfl, r5, _⟩ := own_reads_cap own4
      have B4 := Lib.hid (B3.out.trans (b4.mono B3.out.size))
      have T2' := Lib.hid (T2.out w4 B4.out)
      have R5 := Lib.hid r5
      clear T1' own4 r5 T2 B3
      go_wp2_with fail
      refine T2'.out.mono ?_
      rintro e w5 ⟨v5, rfl, own5, b5⟩
      obtain ⟨A6, c6, rfl, r6, _⟩ := own_reads_cap own5
      have B5 := Lib.hid (B4.out.trans (b5.mono B4.out.size))
      have SG := Lib.hid (sameglyphs_any A5 A6 c5 c6 w5.heap.size (R.trimEnd R.bl a) (R.trimEnd R.bl b) w5 ((R5.out.below b5 (Nat.le_refl _)).more b5.size) r6 (by omega) (by omega))
      have SP3 := Lib.hid (fun n => SP2.out (w5.drewN n) (below_drewN B5.out n))
      clear T2' own5 r6 b5 R5 B4 SP2
      go_wp2_with fail
      refine SG.out.mono ?_
      rintro e w6 ⟨rfl, n, rfl⟩
      have E2 := E1.out
      obtain ⟨d, hd⟩ : ∃ d : Bool, decide (R.trimEnd R.bl a = R.trimEnd R.bl b) = d := ⟨_, rfl⟩
      rw [hd] at E2 ⊢
      clear SG E1 hd
      go_wp2_with fail
      refine (SP3.out n).mono ?_
      rintro e w7 ⟨v7, ys, rfl, own7, hy, b7⟩
      obtain ⟨A7, c7, rfl, _, _⟩ := own7.chs
      have E3 := R.sp_nil hy
      rw [HWT.out, decide_eq_true rfl] at E3
      have B7 := Lib.hid ((below_drewN B5.out n).trans (b7.mono B5.out.size))
      obtain ⟨l2, hl2⟩ : ∃ l, ys.length = l := ⟨_, rfl⟩
      rw [hl2] at E3 ⊢
      clear SP3 own7 hy b7 hl2 E2
      go_wp2_with fail
      refine (awake_any _).mono ?_
      rintro e w8 ⟨rfl, b8⟩
      go_wp2_with fail
      go_ret
      exact ⟨ret_bool (by simp [*]), HBW.out.trans ((B7.out.trans (b8.mono B7.out.size)).mono HBW.out.size)⟩
end Go.Proofs.Yteakiielcmgkeaa
