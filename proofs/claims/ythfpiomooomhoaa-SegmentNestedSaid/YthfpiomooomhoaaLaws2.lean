/-
  The statements of layer 22: SegmentMaximal. By an AI agent.
-/
import Derived.Test.YthfpiomooomhoaaLaws1
namespace Go.Proofs.Ythfpiomooomhoaa
open Go.RowKit

theorem S.kind_le (t : ByteArray) : S.kind t ≤ 2 := by
  unfold S.kind
  split
  · omega
  · split
    · omega
    · split <;> omega

theorem S.kd_le (gs : List S.G) (i : Nat) : S.kd gs i ≤ 2 := S.kind_le _

theorem words_mem (gs : List S.G) (x : Nat × Nat) (hx : x ∈ S.words gs) : S.kd gs x.1 ≠ 0 ∧ (x.1 = 0 ∨ S.kd gs x.1 ≠ S.kd gs (x.1 - 1)) ∧ x.1 < x.2 ∧ x.2 ≤ gs.length ∧ (∀ i, x.1 ≤ i → i < x.2 → S.kd gs i = S.kd gs x.1) := by
  rw [S.words_kept] at hx
  obtain ⟨h1, h2, h3, h4, h5, _⟩ := S.mem_kept gs.length (S.tgW gs) _ 0 (.inl rfl) (Nat.zero_le _) x hx
  refine ⟨by simpa using h1, ?_, h3, h4, ?_⟩
  · rcases h2 with h | h
    · exact .inl h
    · exact .inr (by simpa [S.tgW] using h)
  · intro i
    induction i with
    | zero => intro ha _; rw [show x.1 = 0 by omega]
    | succ i ih =>
      intro ha hb
      by_cases e : x.1 = i + 1
      · rw [e]
      · have := h5 (i + 1) (by omega) hb
        simp only [S.tgW, Nat.add_sub_cancel, beq_iff_eq] at this
        rw [this]
        exact ih (by omega) (by omega)

/-- Adjacent words are of different kinds. -/
theorem words_adj (gs : List S.G) (k : Nat) (h0 : 0 < k) (hk : k < (S.words gs).length) (he : ((S.words gs)[k - 1]'(by omega)).2 = (S.words gs)[k].1) :
    1 ≤ (S.words gs)[k].1 ∧ ((S.kd gs (S.words gs)[k].1 == 1) == (S.kd gs ((S.words gs)[k].1 - 1) == 1)) = false := by
  obtain ⟨a1, a2, a3, a4, a5⟩ := words_mem gs _ (List.getElem_mem hk)
  obtain ⟨b1, b2, b3, b4, b5⟩ := words_mem gs _ (List.getElem_mem (show k - 1 < (S.words gs).length by omega))
  rw [he] at b3 b4 b5
  have h1 : 1 ≤ (S.words gs)[k].1 := by omega
  refine ⟨h1, ?_⟩
  have e := b5 ((S.words gs)[k].1 - 1) (by omega) (by omega)
  rcases a2 with h | h
  · omega
  · have l1 := S.kd_le gs (S.words gs)[k].1
    have l2 := S.kd_le gs ((S.words gs)[k].1 - 1)
    rw [← e] at b1
    generalize S.kd gs (S.words gs)[k].1 = p at *
    generalize S.kd gs ((S.words gs)[k].1 - 1) = q at *
    rw [beq_eq_false_iff_ne, ne_eq, Bool.eq_iff_iff, beq_iff_eq, beq_iff_eq]
    omega

theorem byte_of (t : ByteArray) (h : (t.toList == [32]) = true) (h0 : 0 < t.size) : (t[0].toNat : Int) = 32 := by
  rw [beq_iff_eq] at h
  have e : t.toList = t.data.toList := ByteArray.toList_eq t
  have h2 : t[0] = t.data.toList[0]'(by rw [← e, h]; simp) := rfl
  rw [h2]
  have : t.data.toList = [32] := by rw [← e, h]
  simp only [this, List.getElem_cons_zero]
  rfl

set_option maxHeartbeats 4000000 in
set_option maxRecDepth 10000 in
theorem letter_any (t : ByteArray) (wd : Bool) (st : Int) (w : World) (ht : t.size ≤ maxLen) :
    Calls Try.prog 16 #[.agg #[.string t, .bool wd, .int .i64 st]] w fun e w' => e = .returned (.bool (S.kind t == 1)) ∧ Below w.heap.size w w' := by
  unfold maxLen at ht
  have hb : Below w.heap.size w (w.alloc (.cells #[.string t, .bool wd, .int .i64 st] 32)) := (Below.refl _ _).alloc (Nat.le_refl _) _
  have HB := Lib.hid hb
  clear hb
  rcases S.kc t with ⟨h, h0, hk⟩ | ⟨h, h0, h1, hs, hk⟩ | ⟨h, h0, h1, hs, hc, hk⟩ | ⟨h, h0, h1, hs, hc, hk⟩ | ⟨h, h0, h1, hs, hc, hd, hk⟩ | ⟨h, h0, h1, hs, hc, hd, hk⟩ | ⟨h, h0, h1, hs, hc, hd, hk⟩ | ⟨h, h0, h1, hs, hd, hk⟩ | ⟨h, h0, h1, hs, hc, hd, hk⟩ | ⟨h, h0, h1, hs, hc, hd, hk⟩ | ⟨h, h0, h1, hs, hc, hd, hk⟩ | ⟨h, h0, h1, hs, hc, hd, hk⟩
  · have HK := Lib.hid hk
    clear hk
    go_enter Try.func16, Try.ntmps16
    go_wp2
    go_ret
    exact ⟨ret_bool (by rw [HK.out]; rfl), HB.out⟩
  all_goals
    have HK := Lib.hid hk
    clear hk
    try have hc := byte_of t h1 hs
    first | have b1 : decide ((128 : Int) ≤ (t[0].toNat : Int)) = true := decide_eq_true (by omega) | have b1 : decide ((128 : Int) ≤ (t[0].toNat : Int)) = false := decide_eq_false (by omega)
    first | have b2 : ((t[0].toNat : Int) == 95) = true := beq_iff_eq.2 (by omega) | have b2 : ((t[0].toNat : Int) == 95) = false := beq_eq_false_iff_ne.2 (by omega)
    first | have b3 : decide ((48 : Int) ≤ (t[0].toNat : Int)) = true := decide_eq_true (by omega) | have b3 : decide ((48 : Int) ≤ (t[0].toNat : Int)) = false := decide_eq_false (by omega)
    first | have b4 : decide ((t[0].toNat : Int) ≤ 57) = true := decide_eq_true (by omega) | have b4 : decide ((t[0].toNat : Int) ≤ 57) = false := decide_eq_false (by omega)
    first | have b5 : decide ((65 : Int) ≤ (t[0].toNat : Int)) = true := decide_eq_true (by omega) | have b5 : decide ((65 : Int) ≤ (t[0].toNat : Int)) = false := decide_eq_false (by omega)
    first | have b6 : decide ((t[0].toNat : Int) ≤ 90) = true := decide_eq_true (by omega) | have b6 : decide ((t[0].toNat : Int) ≤ 90) = false := decide_eq_false (by omega)
    first | have b7 : decide ((97 : Int) ≤ (t[0].toNat : Int)) = true := decide_eq_true (by omega) | have b7 : decide ((97 : Int) ≤ (t[0].toNat : Int)) = false := decide_eq_false (by omega)
    first | have b8 : decide ((t[0].toNat : Int) ≤ 122) = true := decide_eq_true (by omega) | have b8 : decide ((t[0].toNat : Int) ≤ 122) = false := decide_eq_false (by omega)
    clear ht
    go_enter Try.func16, Try.ntmps16
    go_wp2
    go_ret
    exact ⟨ret_bool (by rw [HK.out]; rfl), HB.out⟩
set_option maxRecDepth 10000 in
set_option maxHeartbeats 4000000 in
theorem maximal_any (A : Option Addr) (c B : Nat) (gs : List S.G) (w : World) (hrow : Row w B A gs) (hB : B ≤ w.heap.size) :
    Calls Try.prog 4 #[.slice A gs.length c] w fun e w' => e = .returned (.bool true) ∧ Below w.heap.size w w' := by
  have HG := Lib.hid (great_any A c B gs w hrow.1 hrow.2.1 hrow.2.2)
  cases hgr : S.great gs
  · obtain ⟨hl, hg⟩ := S.great_false hgr
    rw [hgr] at HG
    clear hgr
    have hs : ∀ g ∈ gs, g.t.size ≤ maxLen := hrow.2.2
    have HW := Lib.hid (words_any A c B gs w hrow.1 hB (by omega) hs)
    have hwl : (S.words gs).length ≤ 200 := Nat.le_trans (List.length_filterMap_le _ _) (Nat.le_trans (S.spans_length _ _ _) (by omega))
    have HM := Lib.hid (fun k (hk : k < (S.words gs).length) => words_mem gs _ (List.getElem_mem hk))
    have HA := Lib.hid (words_adj gs)
    have HROW := Lib.hid hrow
    clear hrow hg hs
    go_enter Try.func4, Try.ntmps4
    go_wp2_with fail
    refine HG.out.mono ?_
    rintro e w0 ⟨rfl, rfl⟩
    go_wp2_with fail
    refine HW.out.mono ?_
    rintro e w1 ⟨A1, c1, rfl, r1, b1⟩
    clear HW HG
    go_wp2_with fail
    go_loopw [15] (fun i wr => ∃ k : Nat, k ≤ (S.words gs).length ∧ i = .int .i64 k ∧ Below w1.heap.size w1 wr) (fun i _ => (S.words gs).length - (intOf i).toNat)
    case atStart => exact ⟨0, Nat.zero_le _, rfl, Below.refl _ _⟩
    case round =>
      obtain ⟨k, hk, rfl, hb3⟩ := hrel
      have hbr : Below w.heap.size w wr := b1.trans (hb3.mono b1.size)
      by_cases hlt : k < (S.words gs).length
      · obtain ⟨bs, offs, rfl, hlos, hcs⟩ := (r1.below hb3 (Nat.le_refl _)).span (by omega)
        obtain ⟨e0, e1⟩ := hcs k hlt
        obtain ⟨m1, m2, m3, m4, m5⟩ := HM.out k hlt
        have HADJ := HA.out k
        obtain ⟨a, ha⟩ : ∃ a, (S.words gs)[k].1 = a := ⟨_, rfl⟩
        obtain ⟨d, hd⟩ : ∃ d, (S.words gs)[k].2 = d := ⟨_, rfl⟩
        rw [ha] at e0 m1 m2 m3 m5
        rw [hd] at e1 m3 m4 m5
        obtain ⟨b, off, rfl, hlo, hc⟩ := (HROW.out.1.below hbr hB).glyphD (by omega)
        have M5 := Lib.hid m5
        have sz := fun j => sizeD (k := j) HROW.out.2.2
        have SZ := Lib.hid sz
        clear m5 sz m1 m2 HA
        have t1 : decide ((a : Int) < 0) = false := decide_eq_false (by omega)
        have t2 : decide (gs.length < d) = false := decide_eq_false (by omega)
        have t3 : decide (d ≤ a) = false := decide_eq_false (by omega)
        have HC := Lib.hid hc
        have HCS := Lib.hid hcs
        clear hc hcs
        go_wp2
        have hb4 : Below wr.heap.size wr (wr.alloc (.cells #[.int .i64 a, .int .i64 d] 34)) := (Below.refl _ _).alloc (Nat.le_refl _) _
        have f0 : (wr.alloc (.cells #[.int .i64 a, .int .i64 d] 34)).cell? ⟨wr.heap.size, 0, none⟩ = some (.int .i64 a) := (Two.new wr _ _).cell0
        have f1 : (wr.alloc (.cells #[.int .i64 a, .int .i64 d] 34)).cell? ⟨wr.heap.size, 1, none⟩ = some (.int .i64 d) := (Two.new wr _ _).cell1
        have f2 : wr.heap.size < (wr.alloc (.cells #[.int .i64 a, .int .i64 d] 34)).heap.size := by simp
        generalize wr.alloc (.cells #[.int .i64 a, .int .i64 d] 34) = w2 at *
        have hbl : b < wr.heap.size := by have := hbr.size; omega
        have hbs : bs < wr.heap.size := by have := hb3.size; omega
        generalize hBy : wr.heap.size = By at *
        obtain ⟨wo, rfl⟩ : ∃ wo, wo = wr := ⟨_, rfl⟩
        go_loopw [7] (fun i wi => ∃ j : Nat, i = .int .i64 j ∧ a ≤ j ∧ j ≤ d ∧ Below By wo wi ∧ By < wi.heap.size ∧ wi.cell? ⟨By, 0, none⟩ = some (.int .i64 a) ∧ wi.cell? ⟨By, 1, none⟩ = some (.int .i64 d)) (fun i _ => d - (intOf i).toNat)
        case atStart => exact ⟨a, rfl, Nat.le_refl _, by omega, hb4, f2, f0, f1⟩
        case round =>
          obtain ⟨j, rfl, hj1, hj2, hb5, g2, g0, g1⟩ := hrel
          clear hb4 f0 f1 f2
          have GL : Hid (∀ (w1 : World) (i : Nat), Below By wo w1 → i < gs.length → w1.cell? ⟨b, off + i * 3, none⟩ = some (.string (gs.getD i default).t) ∧ w1.cell? ⟨b, off + i * 3 + 1, none⟩ = some (.bool (gs.getD i default).wd) ∧ w1.cell? ⟨b, off + i * 3 + 2, none⟩ = some (.int .i64 (gs.getD i default).st)) := Lib.hid (fun w1 i h hi => by
            obtain ⟨k0, k1, k2⟩ := HC.out i hi
            exact ⟨(h.cell (p := ⟨b, _, none⟩) hbl).trans k0, (h.cell (p := ⟨b, _, none⟩) hbl).trans k1, (h.cell (p := ⟨b, _, none⟩) hbl).trans k2⟩)
          by_cases hjd : j < d
          · obtain ⟨u0, u1, u2⟩ := GL.out _ j hb5 (by omega)
            obtain ⟨v0, v1, v2⟩ := GL.out _ a hb5 (by omega)
            have sj := SZ.out j (by omega)
            have sa := SZ.out a (by omega)
            have pj : (S.kind (gs.getD j default).t == 1) = (S.kind (gs.getD a default).t == 1) := by
              have := M5.out j hj1 hjd
              unfold S.kd at this
              rw [this]
            obtain ⟨p, pa⟩ : ∃ p, (S.kind (gs.getD a default).t == 1) = p := ⟨_, rfl⟩
            rw [pa] at pj
            clear GL
            generalize gs.getD j default = gj at *
            generalize gs.getD a default = ga at *
            have q1 : (0 : Int) ≤ (j : Int) := by omega
            have q2 : (j : Int) < (gs.length : Int) := by omega
            have q3 : (0 : Int) ≤ (a : Int) := by omega
            have q4 : (a : Int) < (gs.length : Int) := by omega
            have hbz : Below By wo wr.drew := hb5.drew
            have hBw := Nat.le_of_lt g2
            have K : ∀ (g : S.G) (w1 : World), g.t.size ≤ maxLen → (S.kind g.t == 1) = p → (w1.cell? ⟨By, 0, none⟩ = some (.int .i64 a) ∧ w1.cell? ⟨By, 1, none⟩ = some (.int .i64 d) ∧ w1.cell? ⟨b, off + j * 3, none⟩ = some (.string gj.t) ∧ w1.cell? ⟨b, off + j * 3 + 1, none⟩ = some (.bool gj.wd) ∧ w1.cell? ⟨b, off + j * 3 + 2, none⟩ = some (.int .i64 gj.st) ∧ w1.cell? ⟨b, off + a * 3, none⟩ = some (.string ga.t) ∧ w1.cell? ⟨b, off + a * 3 + 1, none⟩ = some (.bool ga.wd) ∧ w1.cell? ⟨b, off + a * 3 + 2, none⟩ = some (.int .i64 ga.st) ∧ Below By wo w1 ∧ By < w1.heap.size) →
                Calls Try.prog 16 #[.agg #[.string g.t, .bool g.wd, .int .i64 g.st]] w1 fun e w' => e = .returned (.bool p) ∧ (w'.cell? ⟨By, 0, none⟩ = some (.int .i64 a) ∧ w'.cell? ⟨By, 1, none⟩ = some (.int .i64 d) ∧ w'.cell? ⟨b, off + j * 3, none⟩ = some (.string gj.t) ∧ w'.cell? ⟨b, off + j * 3 + 1, none⟩ = some (.bool gj.wd) ∧ w'.cell? ⟨b, off + j * 3 + 2, none⟩ = some (.int .i64 gj.st) ∧ w'.cell? ⟨b, off + a * 3, none⟩ = some (.string ga.t) ∧ w'.cell? ⟨b, off + a * 3 + 1, none⟩ = some (.bool ga.wd) ∧ w'.cell? ⟨b, off + a * 3 + 2, none⟩ = some (.int .i64 ga.st) ∧ Below By wo w' ∧ By < w'.heap.size) := by
              rintro g w1 hsz hp ⟨z0, z1, z2, z3, z4, z5, z6, z7, z8, z9⟩
              refine (letter_any g.t g.wd g.st w1 hsz).mono ?_
              rintro e w' ⟨rfl, h2⟩
              have hb1 : b < w1.heap.size := by omega
              exact ⟨by rw [hp], (h2.cell (p := ⟨By, _, none⟩) z9).trans z0, (h2.cell (p := ⟨By, _, none⟩) z9).trans z1, (h2.cell (p := ⟨b, _, none⟩) hb1).trans z2, (h2.cell (p := ⟨b, _, none⟩) hb1).trans z3, (h2.cell (p := ⟨b, _, none⟩) hb1).trans z4, (h2.cell (p := ⟨b, _, none⟩) hb1).trans z5, (h2.cell (p := ⟨b, _, none⟩) hb1).trans z6, (h2.cell (p := ⟨b, _, none⟩) hb1).trans z7, z8.trans (h2.mono (Nat.le_of_lt z9)), Nat.lt_of_lt_of_le z9 h2.size⟩
            go_wp2
            go_region_held3 (fun w' => w'.cell? ⟨By, 0, none⟩ = some (.int .i64 a) ∧ w'.cell? ⟨By, 1, none⟩ = some (.int .i64 d) ∧ w'.cell? ⟨b, off + j * 3, none⟩ = some (.string gj.t) ∧ w'.cell? ⟨b, off + j * 3 + 1, none⟩ = some (.bool gj.wd) ∧ w'.cell? ⟨b, off + j * 3 + 2, none⟩ = some (.int .i64 gj.st) ∧ w'.cell? ⟨b, off + a * 3, none⟩ = some (.string ga.t) ∧ w'.cell? ⟨b, off + a * 3 + 1, none⟩ = some (.bool ga.wd) ∧ w'.cell? ⟨b, off + a * 3 + 2, none⟩ = some (.int .i64 ga.st) ∧ Below By wo w' ∧ By < w'.heap.size)
              (first | exact ⟨g0, g1, u0, u1, u2, v0, v1, v2, hbz, g2⟩ | assumption | (refine ⟨?_, ?_, ?_, ?_, ?_, ?_, ?_, ?_, ?_, ?_⟩ <;> assumption))
              (first | (go_at_call 16; refine (K _ _ ?_ ?_ ?_).mono ?_; assumption; assumption; (first | exact ⟨g0, g1, u0, u1, u2, v0, v1, v2, hbz, g2⟩ | assumption); rintro e w' ⟨rfl, hS⟩; have hS' := hS; obtain ⟨s0, s1, s2, s3, s4, s5, s6, s7, s8, s9⟩ := hS'))
            all_goals
              go_wp2
              go_roundw
              case rel => exact ⟨j + 1, by go_num, by omega, hjd, s8, s9, s0, s1⟩
              case measure => simp [intOf] <;> omega
          · obtain rfl : j = d := by omega
            by_cases hk0 : k = 0
            · have q1 : decide (0 < k) = false := decide_eq_false (by omega)
              clear hk0
              go_wp2
              go_quiet (fail)
              go_wp2
              go_roundw
              case rel => exact ⟨k + 1, hlt, by go_num, hb3.trans ((below_drewN hb5 _).mono (by have := hb3.size; omega))⟩
              case measure => simp [intOf] <;> omega
            · obtain ⟨m, hm⟩ : ∃ m, k = m + 1 := ⟨k - 1, by omega⟩
              have p0 := (HCS.out m (by omega)).2
              have hbs' : bs < By := hbs
              replace p0 := (hb5.cell (p := ⟨bs, _, none⟩) hbs').trans p0
              have hadj := HADJ (by omega) hlt
              simp only [show k - 1 = m by omega] at hadj
              obtain ⟨z, hz⟩ : ∃ z, ((S.words gs)[m]'(by omega)).2 = z := ⟨_, rfl⟩
              rw [ha, hz] at hadj
              rw [hz] at p0
              have q1 : decide (0 < k) = true := decide_eq_true (by omega)
              have q5 : IntKind.i64.wrap ((k : Int) - 1) = (m : Int) := by rw [show (k : Int) - 1 = m by omega]; exact i64_nat (by omega)
              have q6 : (0 : Int) ≤ (m : Int) := by omega
              have q7 : (m : Int) < ((S.words gs).length : Int) := by omega
              by_cases hza : z = a
              · subst hza
                obtain ⟨a1, hL⟩ := hadj rfl
                obtain ⟨l, hl'⟩ : ∃ l, z = l + 1 := ⟨z - 1, by omega⟩
                rw [show z - 1 = l by omega] at hL
                have hzn : z < gs.length := by omega
                obtain ⟨u0, u1, u2⟩ := GL.out _ l hb5 (by omega)
                obtain ⟨v0, v1, v2⟩ := GL.out _ z hb5 hzn
                have sl := SZ.out l (by omega)
                have sa := SZ.out z hzn
                unfold S.kd at hL
                obtain ⟨Lf, pl⟩ : ∃ Lf : S.G → Bool, ∀ g : S.G, (S.kind g.t == 1) = Lf g := ⟨_, fun _ => rfl⟩
                rw [pl, pl] at hL
                generalize gs.getD l default = gl at *
                generalize gs.getD z default = ga at *
                have w1' : IntKind.i64.wrap ((z : Int) - 1) = (l : Int) := by rw [show (z : Int) - 1 = l by omega]; exact i64_nat (by omega)
                have w2' : (0 : Int) ≤ (l : Int) := by omega
                have w3 : (l : Int) < (gs.length : Int) := by omega
                have w4 : (0 : Int) ≤ (z : Int) := by omega
                have w5 : (z : Int) < (gs.length : Int) := by omega
                have hbz : Below By wo wr.drew := hb5.drew
                have K : ∀ (g : S.G) (w1 : World), g.t.size ≤ maxLen → (w1.cell? ⟨By, 0, none⟩ = some (.int .i64 z) ∧ w1.cell? ⟨bs, offs + m * 2 + 1, none⟩ = some (.int .i64 z) ∧ w1.cell? ⟨b, off + l * 3, none⟩ = some (.string gl.t) ∧ w1.cell? ⟨b, off + l * 3 + 1, none⟩ = some (.bool gl.wd) ∧ w1.cell? ⟨b, off + l * 3 + 2, none⟩ = some (.int .i64 gl.st) ∧ w1.cell? ⟨b, off + z * 3, none⟩ = some (.string ga.t) ∧ w1.cell? ⟨b, off + z * 3 + 1, none⟩ = some (.bool ga.wd) ∧ w1.cell? ⟨b, off + z * 3 + 2, none⟩ = some (.int .i64 ga.st) ∧ Below By wo w1 ∧ By < w1.heap.size) →
                    Calls Try.prog 16 #[.agg #[.string g.t, .bool g.wd, .int .i64 g.st]] w1 fun e w' => e = .returned (.bool (Lf g)) ∧ (w'.cell? ⟨By, 0, none⟩ = some (.int .i64 z) ∧ w'.cell? ⟨bs, offs + m * 2 + 1, none⟩ = some (.int .i64 z) ∧ w'.cell? ⟨b, off + l * 3, none⟩ = some (.string gl.t) ∧ w'.cell? ⟨b, off + l * 3 + 1, none⟩ = some (.bool gl.wd) ∧ w'.cell? ⟨b, off + l * 3 + 2, none⟩ = some (.int .i64 gl.st) ∧ w'.cell? ⟨b, off + z * 3, none⟩ = some (.string ga.t) ∧ w'.cell? ⟨b, off + z * 3 + 1, none⟩ = some (.bool ga.wd) ∧ w'.cell? ⟨b, off + z * 3 + 2, none⟩ = some (.int .i64 ga.st) ∧ Below By wo w' ∧ By < w'.heap.size) := by
                  rintro g w1 hsz ⟨z0, z1, z2, z3, z4, z5, z6, z7, z8, z9⟩
                  refine (letter_any g.t g.wd g.st w1 hsz).mono ?_
                  rintro e w' ⟨rfl, h2⟩
                  have hb1 : b < w1.heap.size := by omega
                  have hb2 : bs < w1.heap.size := by omega
                  exact ⟨by rw [pl], (h2.cell (p := ⟨By, _, none⟩) z9).trans z0, (h2.cell (p := ⟨bs, _, none⟩) hb2).trans z1, (h2.cell (p := ⟨b, _, none⟩) hb1).trans z2, (h2.cell (p := ⟨b, _, none⟩) hb1).trans z3, (h2.cell (p := ⟨b, _, none⟩) hb1).trans z4, (h2.cell (p := ⟨b, _, none⟩) hb1).trans z5, (h2.cell (p := ⟨b, _, none⟩) hb1).trans z6, (h2.cell (p := ⟨b, _, none⟩) hb1).trans z7, z8.trans (h2.mono (Nat.le_of_lt z9)), Nat.lt_of_lt_of_le z9 h2.size⟩
                clear hz hm hk0 hadj HADJ hl' pl
                go_wp2
                go_region_held3 (fun w' => w'.cell? ⟨By, 0, none⟩ = some (.int .i64 z) ∧ w'.cell? ⟨bs, offs + m * 2 + 1, none⟩ = some (.int .i64 z) ∧ w'.cell? ⟨b, off + l * 3, none⟩ = some (.string gl.t) ∧ w'.cell? ⟨b, off + l * 3 + 1, none⟩ = some (.bool gl.wd) ∧ w'.cell? ⟨b, off + l * 3 + 2, none⟩ = some (.int .i64 gl.st) ∧ w'.cell? ⟨b, off + z * 3, none⟩ = some (.string ga.t) ∧ w'.cell? ⟨b, off + z * 3 + 1, none⟩ = some (.bool ga.wd) ∧ w'.cell? ⟨b, off + z * 3 + 2, none⟩ = some (.int .i64 ga.st) ∧ Below By wo w' ∧ By < w'.heap.size)
                  (first | exact ⟨g0, p0, u0, u1, u2, v0, v1, v2, hbz, g2⟩ | assumption | (refine ⟨?_, ?_, ?_, ?_, ?_, ?_, ?_, ?_, ?_, ?_⟩ <;> assumption))
                  (first | (go_at_call 16; refine (K _ _ ?_ ?_).mono ?_; assumption; (first | exact ⟨g0, p0, u0, u1, u2, v0, v1, v2, hbz, g2⟩ | assumption); rintro e w' ⟨rfl, hS⟩; have hS' := hS; obtain ⟨s0, s1, s2, s3, s4, s5, s6, s7, s8, s9⟩ := hS'))
                all_goals
                  go_wp2
                  go_roundw
                  case rel => exact ⟨k + 1, hlt, by go_num, hb3.trans (s8.mono (by have := hb3.size; omega))⟩
                  case measure => simp [intOf] <;> omega
              · have q8 : ((z : Int) == (a : Int)) = false := beq_eq_false_iff_ne.2 (by omega)
                clear hz hm hk0 hadj HADJ
                go_wp2
                go_quiet (fail)
                go_wp2
                go_roundw
                case rel => exact ⟨k + 1, hlt, by go_num, hb3.trans ((below_drewN hb5 _).mono (by have := hb3.size; omega))⟩
                case measure => simp [intOf] <;> omega
      · obtain rfl : k = (S.words gs).length := by omega
        go_wp2_with fail
        refine (awake_any _).mono ?_
        rintro e w5 ⟨rfl, b5⟩
        go_wp2_with fail
        go_ret
        exact ⟨rfl, hbr.trans (b5.mono hbr.size)⟩
  · rw [hgr] at HG
    clear hgr hrow
    go_enter Try.func4, Try.ntmps4
    go_wp2_with fail
    refine HG.out.mono ?_
    rintro e w0 ⟨rfl, rfl⟩
    go_wp2_with fail
    refine (awake_any _).mono ?_
    rintro e w5 ⟨rfl, b5⟩
    go_wp2_with fail
    go_ret
    exact ⟨rfl, b5⟩
end Go.Proofs.Ythfpiomooomhoaa
