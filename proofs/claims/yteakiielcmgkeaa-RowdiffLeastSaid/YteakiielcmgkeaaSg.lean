/-
  The walks of layer 17: SameGlyphs; the reference's blank and Trim. By an AI agent.
-/
import Derived.Test.YteakiielcmgkeaaTr
import Derived.Deep.QuietTactic
import Derived.BigQuiet
namespace Go.Proofs.Yteakiielcmgkeaa
open Go.RowKit Go.Deep

theorem below_drewN_ (w : World) (n : Nat) : Below w.heap.size w (w.drewN n) := ⟨rfl, rfl, rfl, Nat.le_refl _, fun _ _ => rfl⟩
set_option maxRecDepth 100000 in
set_option maxHeartbeats 8000000 in
theorem sameglyphs_any (A1 A2 : Option Addr) (c1 c2 B : Nat) (a b : List R.G) (w : World) (ha : Reads w B 3 A1 a.length (R.gcs a)) (hb : Reads w B 3 A2 b.length (R.gcs b)) (hna : a.length ≤ 1000000) (hnb : b.length ≤ 1000000) :
    Calls Try.prog 18 #[.slice A1 a.length c1, .slice A2 b.length c2] w fun e w' => e = .returned (.bool (decide (a = b))) ∧ ∃ n, w' = w.drewN n := by
  have HA := Lib.hid ha
  have HB := Lib.hid hb
  clear ha hb
  by_cases hl : a.length = b.length
  · have HL := Lib.hid hl
    have hl1 : ((a.length : Int) != (b.length : Int)) = false := by simp [hl]
    have hle : b.length ≤ a.length := by omega
    have hle2 : a.length ≤ b.length := by omega
    clear hl
    go_enter Try.func18, Try.ntmps18
    go_wp2
    go_loopw [5] (fun i wr => ∃ k : Nat, k ≤ a.length ∧ i = .int .i64 k ∧ Hid (∀ j (h : j < k) (h1 : j < a.length) (h2 : j < b.length), a[j] = b[j]) ∧ ∃ n, wr = w.drewN n) (fun i _ => a.length - (intOf i).toNat)
    case atStart => exact ⟨0, Nat.zero_le _, rfl, Lib.hid (fun j h => absurd h (by omega)), 0, rfl⟩
    case round =>
      obtain ⟨k, hk, rfl, hprev, n, rfl⟩ := hrel
      by_cases hlt : k < a.length
      · obtain ⟨b1, o1, rfl, _, h1⟩ := HA.out.gl (by omega)
        obtain ⟨b2, o2, rfl, _, h2⟩ := HB.out.gl (by omega)
        obtain ⟨x0, xa, xb⟩ := h1 k hlt
        obtain ⟨y0, ya, yb⟩ := h2 k (by omega)
        have q1 : (0 : Int) ≤ (k : Int) := by omega
        have q2 : (k : Int) < (a.length : Int) := by omega
        have q3 : (k : Int) < (b.length : Int) := by omega
        clear h1 h2
        by_cases hxy : a[k] = b[k]'(by omega)
        · have hp2 : Hid (∀ j (h : j < k + 1) (h1 : j < a.length) (h2 : j < b.length), a[j] = b[j]) := Lib.hid (fun j hj g1 g2 => by
            by_cases e : j = k
            · subst e; exact hxy
            · exact hprev.out j (by omega) g1 g2)
          rw [hxy] at x0 xa xb
          have EQ := R.ne_no (b[k]'(by omega))
          clear hxy hprev
          generalize b[k]'(by omega) = y at *
          go_wp2_with fail
          go_quiet (fail)
          go_wp2
          go_roundw
          case rel => exact ⟨k + 1, hlt, by go_num, hp2, n + nq, rfl⟩
          case measure => simp [intOf] <;> omega
        · have hne : Hid (decide (a = b) = false) := Lib.hid (decide_eq_false (fun e => hxy (by subst e; rfl)))
          generalize b[k]'(by omega) = y at *
          generalize a[k] = x at *
          have EQ := R.ne_yes hxy
          clear hxy
          go_wp2_with fail
          go_quiet (fail)
          go_wp2
          go_ret
          exact ⟨ret_bool hne.out.symm, n + nq, by simp⟩
      · obtain rfl : k = a.length := by omega
        have he : Hid (decide (a = b) = true) := Lib.hid (decide_eq_true (List.ext_getElem HL.out (fun j g1 g2 => hprev.out j g1 g1 g2)))
        go_wp2
        go_ret
        exact ⟨ret_bool he.out.symm, n, rfl⟩
  · have hne : Hid (decide (a = b) = false) := Lib.hid (decide_eq_false (fun e => hl (by rw [e])))
    have hl1 : ((a.length : Int) != (b.length : Int)) = true := by rw [bne_iff_ne]; omega
    go_enter Try.func18, Try.ntmps18
    go_wp2
    go_ret
    exact ⟨ret_bool hne.out.symm, 0, rfl⟩


theorem refblank_any (g : R.G) (w : World) : Calls Try.prog 34 #[g.val] w fun e w' => e = .returned (.bool (R.bl g)) ∧ Below w.heap.size w w' := by
  obtain ⟨gt, gw, gs⟩ := g
  have H : Hid (R.bl ⟨gt, gw, gs⟩ = ((gt.toList == [32]) && !gw && (gs == 0))) := Lib.hid (by
    unfold R.bl R.sp
    have e1 : (gt.toList == [32]) = decide (gt = ⟨#[32]⟩) := by
      have := bytes_eq gt ⟨#[32]⟩
      rw [← this, ByteArray.toList_eq (⟨#[32]⟩ : ByteArray)]
    rw [e1, Bool.eq_iff_iff]
    simp
    constructor
    · rintro ⟨h1, h2, h3⟩; exact ⟨⟨h1, h2⟩, h3⟩
    · rintro ⟨⟨h1, h2⟩, h3⟩; exact ⟨h1, h2, h3⟩)
  have B0 := Lib.hid ((Below.refl w.heap.size w).alloc (Nat.le_refl _) (.cells (R.G.cells ⟨gt, gw, gs⟩).toArray 33))
  simp only [R.G.val, R.G.cells] at B0 ⊢
  by_cases h1 : gt.toList = [32]
  · have q1 : (gt.toList == [32]) = true := beq_iff_eq.2 h1
    cases gw with
    | true =>
      go_enter Try.func34, Try.ntmps34
      go_wp2
      go_ret
      exact ⟨ret_bool (by rw [H.out]; simp), B0.out⟩
    | false =>
      go_enter Try.func34, Try.ntmps34
      go_wp2
      go_ret
      exact ⟨ret_bool (by rw [H.out]; simp [h1]), B0.out⟩
  · have q1 : (gt.toList == [32]) = false := beq_eq_false_iff_ne.2 h1
    go_enter Try.func34, Try.ntmps34
    go_wp2
    go_ret
    exact ⟨ret_bool (by rw [H.out, q1]; rfl), B0.out⟩
set_option maxRecDepth 100000 in
set_option maxHeartbeats 8000000 in
theorem reftrim_any (A : Option Addr) (c B : Nat) (gs : List R.G) (w : World) (hr : Reads w B 3 A gs.length (R.gcs gs)) (hB : B ≤ w.heap.size) (hl : gs.length ≤ 1000) (hc : gs.length ≤ c) :
    Calls Try.prog 28 #[.slice A gs.length c] w fun e w' => R.Out (R.trimEnd R.bl gs) w w' e := by
  have HR := Lib.hid hr
  have HT := Lib.hid (R.trim_take R.bl gs)
  obtain ⟨i0, hi0, hz0, hz1, hz2⟩ := info_parts infoG
  clear hr
  go_enter Try.func28, Try.ntmps28
  go_wp2_with fail
  go_loopw [3] (fun v wr => ∃ n : Nat, v = .int .i64 n ∧ n ≤ gs.length ∧ Hid (∀ i, n ≤ i → ∀ x, gs[i]? = some x → R.bl x = true) ∧ Hid (Below w.heap.size w wr)) (fun v _ => (intOf v).toNat)
  case atStart => exact ⟨gs.length, rfl, Nat.le_refl _, Lib.hid (fun i hi x hx => by have := (List.getElem?_eq_some_iff.1 hx).1; omega), Lib.hid (Below.refl _ _)⟩
  case round =>
    obtain ⟨n, rfl, hn, hp, hbl⟩ := hrel
    have SL := Lib.hid (slice_upto A hn hc)
    by_cases h0 : 0 < n
    · obtain ⟨m, hm⟩ : ∃ m, m + 1 = n := ⟨n - 1, by omega⟩
      have hml : m < gs.length := by omega
      obtain ⟨b, off, rfl, hbB, hcl⟩ := (HR.out.below hbl.out hB).gl (by omega)
      obtain ⟨c0, c1, c2⟩ := hcl m hml
      have HG : Hid (gs[n - 1]? = some gs[m]) := Lib.hid (by rw [show n - 1 = m by omega, List.getElem?_eq_getElem hml])
      have HG2 : Hid (gs[m]? = some gs[m]) := Lib.hid (List.getElem?_eq_getElem hml)
      have q1 : decide (0 < n) = true := decide_eq_true h0
      have q2 : (0 : Int) ≤ (m : Int) := by omega
      have q3 : (m : Int) < (gs.length : Int) := by omega
      have u1 : IntKind.i64.wrap ((n : Int) - 1) = (m : Int) := by rw [show (n : Int) - 1 = (m : Int) by omega]; simp [IntKind.wrap, IntKind.bits, IntKind.signed]; omega
      have u2 : (n : Int) - 1 = (m : Int) := by omega
      clear hcl
      have KB := Lib.hid (fun w1 => refblank_any gs[m] w1)
      generalize gs[m] = g at *
      cases hx : R.bl g with
      | true =>
        have hp2 : Hid (∀ i, m ≤ i → ∀ x, gs[i]? = some x → R.bl x = true) := Lib.hid (fun i hi x hx' => by
          by_cases e : i = m
          · subst e; rw [HG2.out] at hx'; injection hx' with hx'; subst hx'; exact hx
          · exact hp.out i (by omega) x hx')
        rw [hx] at KB
        simp only [R.G.val, R.G.cells] at KB
        clear HG HG2 hp SL hx
        go_wp2_with fail
        refine (KB.out _).mono ?_
        rintro e w2 ⟨rfl, b2⟩
        go_wp2_with fail
        go_roundw
        case rel => exact ⟨m, rfl, by omega, hp2, Lib.hid (hbl.out.trans (b2.mono hbl.out.size))⟩
        case measure => simp [intOf] <;> omega
      | false =>
        have TK := Lib.hid (HT.out n hp.out (.inr ⟨_, HG.out, hx⟩))
        rw [hx] at KB
        simp only [R.G.val, R.G.cells] at KB
        clear HG HG2 hp hx
        have SL2 := SL.out
        clear SL
        go_wp2_with fail
        refine (KB.out _).mono ?_
        rintro e w2 ⟨rfl, b2⟩
        have B2 := Lib.hid (hbl.out.trans (b2.mono hbl.out.size))
        have e : (gs.take n).length = n := by rw [List.length_take, Nat.min_eq_left hn]
        have own0 := World.ownsRow_lit (base := w2.heap.size) (e := 33) (size := 3) w2 #[] 0 (Nat.le_refl _) (by decide) rfl
        have hb0 : Below w2.heap.size w2 (w2.alloc (.cells #[] 33)) := (Below.refl _ _).alloc (Nat.le_refl _) _
        have r2 := (HR.out.below (B2.out.trans (hb0.mono B2.out.size)) hB).take_gl hn
        go_wp2_with (at_builtin; refine wpList_append_any _ rfl (.tmp 18) (.tmp 21) 22 rfl w2.heap.size 33 i0 _ 3 32 Try.underlying22 hi0 hz0 hz1 hz2 rfl (by omega) (.slice (some ⟨w2.heap.size, 0, none⟩) 0 0) 0 [] rfl own0 B _ n c (R.gcs (gs.take n)) rfl r2 (R.gcs_one _) (by simp only [maxLen]; omega) (by omega) hb0.size ?_; intro v1 w1 hown1 hg1 hat1)
        simp only [Nat.zero_add, List.nil_append] at hown1
        go_ret
        refine ⟨_, rfl, ?_, B2.out.trans ((hb0.grown hg1 hb0.size (own_below own0 (Nat.le_refl _))).mono B2.out.size)⟩
        rw [TK.out, e]
        exact own_lower hown1 B2.out.size
    · have TK := Lib.hid (HT.out n hp.out (.inl (by omega)))
      have q1 : decide (0 < n) = false := decide_eq_false h0
      have SL2 := SL.out
      obtain ⟨w2, hw2⟩ : ∃ w2, wr = w2 := ⟨_, rfl⟩
      rw [hw2] at hbl ⊢
      have B2 := Lib.hid hbl.out
      clear SL hw2 hbl hp
      have e : (gs.take n).length = n := by rw [List.length_take, Nat.min_eq_left hn]
      have own0 := World.ownsRow_lit (base := w2.heap.size) (e := 33) (size := 3) w2 #[] 0 (Nat.le_refl _) (by decide) rfl
      have hb0 : Below w2.heap.size w2 (w2.alloc (.cells #[] 33)) := (Below.refl _ _).alloc (Nat.le_refl _) _
      have r2 := (HR.out.below (B2.out.trans (hb0.mono B2.out.size)) hB).take_gl hn
      go_wp2_with (at_builtin; refine wpList_append_any _ rfl (.tmp 18) (.tmp 21) 22 rfl w2.heap.size 33 i0 _ 3 32 Try.underlying22 hi0 hz0 hz1 hz2 rfl (by omega) (.slice (some ⟨w2.heap.size, 0, none⟩) 0 0) 0 [] rfl own0 B _ n c (R.gcs (gs.take n)) rfl r2 (R.gcs_one _) (by simp only [maxLen]; omega) (by omega) hb0.size ?_; intro v1 w1 hown1 hg1 hat1)
      simp only [Nat.zero_add, List.nil_append] at hown1
      go_ret
      refine ⟨_, rfl, ?_, B2.out.trans ((hb0.grown hg1 hb0.size (own_below own0 (Nat.le_refl _))).mono B2.out.size)⟩
      rw [TK.out, e]
      exact own_lower hown1 B2.out.size
end Go.Proofs.Yteakiielcmgkeaa
