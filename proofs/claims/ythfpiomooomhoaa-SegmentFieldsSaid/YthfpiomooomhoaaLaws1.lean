/-
  The statements of layer 22: SegmentPartition. By an AI agent.
-/
import Derived.Test.YthfpiomooomhoaaCover
namespace Go.Proofs.Ythfpiomooomhoaa
open Go.RowKit

/-- A count, where the counts are read. -/
theorem Reads.cnt {w : World} {B n : Nat} {A : Option Addr} {f : Nat → Nat} (h : Reads w B 1 A n (ints ((List.range n).map f))) (hn : 0 < n) :
    ∃ b off, A = some ⟨b, off, none⟩ ∧ b < B ∧ ∀ k, k < n → w.cell? ⟨b, off + k, none⟩ = some (.int .i64 (f k)) := by
  obtain ⟨b, off, e, hb, hc⟩ := h.flat hn (by decide)
  refine ⟨b, off, e, hb, fun k hk => hc k _ ?_⟩
  simp [ints, hk]

/-- The row's own facts: what the statements ask of every row. -/
def Row (w : World) (B : Nat) (A : Option Addr) (gs : List S.G) : Prop := Reads w B 3 A gs.length (gs.flatMap S.G.cells) ∧ gs.length ≤ maxLen ∧ ∀ g ∈ gs, g.t.size ≤ maxLen

theorem Row.below {w w' : World} {B B' : Nat} {A : Option Addr} {gs : List S.G} (h : Row w B A gs) (hb : Below B' w w') (hB : B ≤ B') : Row w' B A gs := ⟨h.1.below hb hB, h.2⟩

set_option maxHeartbeats 2000000 in
theorem partition_any (A : Option Addr) (c B : Nat) (gs : List S.G) (w : World) (hrow : Row w B A gs) (hB : B ≤ w.heap.size) :
    Calls Try.prog 3 #[.slice A gs.length c] w fun e w' => e = .returned (.bool true) ∧ Below w.heap.size w w' := by
  have HG := Lib.hid (great_any A c B gs w hrow.1 hrow.2.1 hrow.2.2)
  cases hgr : S.great gs
  · obtain ⟨hl, hg⟩ := S.great_false hgr
    rw [hgr] at HG
    clear hgr
    have hs : ∀ g ∈ gs, g.t.size ≤ maxLen := hrow.2.2
    have HW := Lib.hid (words_any A c B gs w hrow.1 hB (by omega) hs)
    have HC : Hid (∀ A' c' w1, Reads w1 w1.heap.size 2 A' (S.words gs).length ((S.words gs).flatMap S.sc) → Calls Try.prog 13 #[.int .i64 gs.length, .slice A' (S.words gs).length c'] w1 fun e w' => ∃ A' c', e = .returned (.tuple #[.slice A' gs.length c', .bool true]) ∧ Reads w' w'.heap.size 1 A' gs.length (ints ((List.range gs.length).map (S.cnt (S.words gs)))) ∧ Below w1.heap.size w1 w') := Lib.hid (fun A' c' w1 hr =>
      covered_any gs.length A' c' w1.heap.size (S.words gs) w1 (by omega) hr (Nat.le_refl _) (Nat.le_trans (List.length_filterMap_le _ _) (Nat.le_trans (S.spans_length _ _ _) (by omega))) (S.words_asc gs))
    have HX := Lib.hid (fun i hi => S.words_cnt gs i hi)
    have HROW := Lib.hid hrow
    clear hrow hg
    go_enter Try.func3, Try.ntmps3
    go_wp2_with fail
    refine HG.out.mono ?_
    rintro e w0 ⟨rfl, rfl⟩
    go_wp2_with fail
    refine HW.out.mono ?_
    rintro e w1 ⟨A1, c1, rfl, r1, b1⟩
    go_wp2_with fail
    refine (HC.out _ _ _ r1).mono ?_
    rintro e w2 ⟨A2, c2, rfl, r2, b2⟩
    have hb2 : Below w.heap.size w w2 := b1.trans (b2.mono b1.size)
    clear r1 b1 b2 HC HW HG
    go_wp2_with fail
    go_loopw [21] (fun i wr => ∃ k : Nat, k ≤ gs.length ∧ i = .int .i64 k ∧ Below w2.heap.size w2 wr) (fun i _ => gs.length - (intOf i).toNat)
    case atStart => exact ⟨0, Nat.zero_le _, rfl, Below.refl _ _⟩
    case round =>
      obtain ⟨k, hk, rfl, hb3⟩ := hrel
      by_cases hlt : k < gs.length
      · have hbr : Below w.heap.size w wr := hb2.trans (hb3.mono hb2.size)
        obtain ⟨b, off, rfl, hlo, hc⟩ := (HROW.out.1.below hbr hB).glyphD (by omega)
        obtain ⟨c0, c1', c2'⟩ := hc k hlt
        obtain ⟨b', off', rfl, hlo', hc'⟩ := (r2.below hb3 (Nat.le_refl _)).cnt (by omega)
        have d0 := hc' k hlt
        rw [HX.out k hlt] at d0
        have sg := sizeD HROW.out.2.2 hlt
        have HK : S.kd gs k = S.kind (gs.getD k default).t := rfl
        rw [HK] at d0
        have hbl : b < wr.heap.size := by have := hbr.size; omega
        have hbl' : b' < wr.heap.size := by have := hb3.size; omega
        have hb4 : Below wr.heap.size wr wr.drew := (Below.refl _ _).drew
        clear hc hc' HX r2 HK
        generalize gs.getD k default = g at *
        have BL := blank_any g.t g.wd g.st
        have q1 : (0 : Int) ≤ (k : Int) := by omega
        have q2 : (k : Int) < (gs.length : Int) := by omega
        obtain ⟨z, hz⟩ : ∃ z : Int, ((if S.kind g.t = 0 then 0 else 1 : Nat) : Int) = z := ⟨_, rfl⟩
        rw [hz] at d0
        obtain ⟨p, hp⟩ : ∃ p : Bool, (S.kind g.t == 0) = p := ⟨_, rfl⟩
        have K : ∀ w1 : World, Below wr.heap.size wr w1 → Calls Try.prog 15 #[.agg #[.string g.t, .bool g.wd, .int .i64 g.st]] w1 fun e w' => e = .returned (.bool p) ∧
            (w'.cell? ⟨b, off + k * 3, none⟩ = some (.string g.t) ∧ w'.cell? ⟨b, off + k * 3 + 1, none⟩ = some (.bool g.wd) ∧ w'.cell? ⟨b, off + k * 3 + 2, none⟩ = some (.int .i64 g.st) ∧ w'.cell? ⟨b', off' + k, none⟩ = some (.int .i64 z) ∧ Below wr.heap.size wr w') := by
          intro w1 h1
          refine (BL w1 sg).mono ?_
          rintro e w' ⟨rfl, h2⟩
          have h3 := h1.trans (h2.mono h1.size)
          exact ⟨by rw [hp], (h3.cell (p := ⟨b, _, none⟩) hbl).trans c0, (h3.cell (p := ⟨b, _, none⟩) hbl).trans c1', (h3.cell (p := ⟨b, _, none⟩) hbl).trans c2', (h3.cell (p := ⟨b', _, none⟩) hbl').trans d0, h3⟩
        have HZ : ((z == 1) = false ∧ p = true) ∨ ((z == 1) = true ∧ p = false) := by
          rw [← hz, ← hp]
          by_cases h : S.kind g.t = 0 <;> simp [h]
        clear hz hp BL
        rcases HZ with ⟨hz1, rfl⟩ | ⟨hz1, rfl⟩
        all_goals
          go_wp2
          go_region_held3 (fun w' => w'.cell? ⟨b, off + k * 3, none⟩ = some (.string g.t) ∧ w'.cell? ⟨b, off + k * 3 + 1, none⟩ = some (.bool g.wd) ∧ w'.cell? ⟨b, off + k * 3 + 2, none⟩ = some (.int .i64 g.st) ∧ w'.cell? ⟨b', off' + k, none⟩ = some (.int .i64 z) ∧ Below wr.heap.size wr w')
            (first | exact ⟨c0, c1', c2', d0, hb4⟩ | assumption | (refine ⟨?_, ?_, ?_, ?_, ?_⟩ <;> assumption))
            (first | (go_at_call 15; refine (K _ ?_).mono ?_; (first | assumption | exact hb4); rintro e w' ⟨rfl, s1, s2, s3, s4, s5⟩))
          all_goals
            go_wp2
            go_roundw
            case rel => exact ⟨k + 1, hlt, by go_num, hb3.trans (s5.mono hb3.size)⟩
            case measure => simp [intOf] <;> omega
      · obtain rfl : k = gs.length := by omega
        have hbr : Below w.heap.size w wr := hb2.trans (hb3.mono hb2.size)
        go_wp2_with fail
        refine (awake_any _).mono ?_
        rintro e w5 ⟨rfl, b5⟩
        go_wp2_with fail
        go_ret
        exact ⟨rfl, hbr.trans (b5.mono hbr.size)⟩
  · rw [hgr] at HG
    clear hgr hrow
    go_enter Try.func3, Try.ntmps3
    go_wp2_with fail
    refine HG.out.mono ?_
    rintro e w0 ⟨rfl, rfl⟩
    go_wp2_with fail
    refine (awake_any _).mono ?_
    rintro e w5 ⟨rfl, b5⟩
    go_wp2_with fail
    go_ret
    exact ⟨rfl, b5⟩
end Go.Proofs.Ythfpiomooomhoaa
