/-
  The walks of layer 9, more: Clone, New, Set, Resize and the reference's, which make slices. By an AI agent.
-/
import Derived.Test.YteolkaheaaepiaaWalks
import Derived.Lib.SliceRun
import Derived.Laws.CopyOwn
namespace Go.Proofs.Yteolkaheaaepiaa
open Go.RowKit

theorem bool_info : (Try.prog.info? 4).map (fun i => (i.zero, i.size, i.bytes)) = some (some (.bool false), 1, 1) := by kernel_rfl

theorem bools_one (ls : List Bool) : ∀ u ∈ ls.map Value.bool, u.oneCell' = true := by
  intro u hu; simp only [List.mem_map] at hu; obtain ⟨s, _, rfl⟩ := hu; rfl

/-- A slice of the call's own that reads as these bools. -/
def OwnB (w w' : World) (e : Ending) (ls : List Bool) : Prop := ∃ v, e = .returned v ∧ w'.ownsRow w.heap.size 4 1 v ls.length (ls.map Value.bool) ∧ Below w.heap.size w w'

theorem clone_any (A : Option Addr) (cap B : Nat) (ls : List Bool) (w : World) (hr : Reads w B 1 A ls.length (ls.map Value.bool)) (hB : B ≤ w.heap.size) (hl : ls.length ≤ 1000) :
    Calls Try.prog 23 #[.slice A ls.length cap] w fun e w' => OwnB w w' e ls := by
  have hq := fun w A n => Lib.run_eql_slice_nil (P := Try.prog) w 22 4 A n cap 0 0 Try.underlying22
  cases A with
  | none =>
    have h0 : ls.length = 0 := by
      rcases Nat.eq_zero_or_pos ls.length with h | h
      · exact h
      · obtain ⟨ad, h, _⟩ := hr.2 h; cases h
    have : ls = [] := List.eq_nil_of_length_eq_zero h0
    subst this
    clear hr h0
    go_enter Try.func23, Try.ntmps23
    go_wp2
    go_ret
    exact ⟨_, rfl, World.ownsRow_nil _ _ _ _, Below.refl _ _⟩
  | some ad =>
    have HR1 := (hr.alloc hB (.cells #[] 4))
    have own0 := World.ownsRow_lit (base := w.heap.size) (e := 4) (size := 1) w #[] 0 (Nat.le_refl _) (by decide) rfl
    have hb0 : Below w.heap.size w (w.alloc (.cells #[] 4)) := (Below.refl _ _).alloc (Nat.le_refl _) _
    obtain ⟨i0, hi0, hz0, hz1, hz2⟩ := info_parts bool_info
    clear hr
    go_enter Try.func23, Try.ntmps23
    go_wp2_with (at_builtin; refine wpList_append_any _ rfl (.tmp 5) (.tmp 6) _ rfl w.heap.size 4 i0 _ 1 1 Try.underlying22 hi0 hz0 hz1 hz2 rfl (by omega) (.slice (some ⟨w.heap.size, 0, none⟩) 0 0) 0 [] rfl own0 B (some ad) ls.length cap _ rfl HR1 (bools_one _) (by simp only [maxLen]; omega) (by omega) hb0.size ?_; intro v1 w1 hown1 hg1 hat1)
    go_ret
    exact ⟨_, rfl, by simpa using hown1, hb0.grown hg1 hb0.size (own_below own0 (Nat.le_refl _))⟩

theorem madeBools (n : Nat) : (madeCells #[Value.bool false] (n * 1)).toList = (List.replicate n false).map Value.bool := by
  rw [Nat.mul_one, toList_madeCells_one, List.map_replicate]

/-- What New has written behind k rounds. -/
def T.fill (n k : Nat) : List Bool := ((List.range k).map fun i => i % 8 == 0) ++ List.replicate (n - k) false
theorem T.fill_zero (n : Nat) : T.fill n 0 = List.replicate n false := by simp [T.fill]
theorem T.length_fill (n k : Nat) (h : k ≤ n) : (T.fill n k).length = n := by simp [T.fill]; omega
theorem T.fill_succ (n k : Nat) (h : k < n) : (T.fill n k).set k (k % 8 == 0) = T.fill n (k + 1) := by
  unfold T.fill
  have e : n - k = (n - (k + 1)) + 1 := by omega
  rw [List.set_append_right _ _ (by simp), e, List.replicate_succ, List.range_succ, List.map_append, List.append_assoc]
  simp
theorem T.fill_all (n : Nat) : T.fill n n = (List.range n).map fun i => i % 8 == 0 := by simp [T.fill]

theorem new_any (x : Int) (w : World) : Calls Try.prog 18 #[.int .i64 x] w fun e w' => OwnB w w' e (T.new x) := by
  obtain ⟨N, hN, hN1⟩ : ∃ N, T.lim x = N ∧ N ≤ 1000 := ⟨_, rfl, T.lim_le x⟩
  have hx : (x ≤ 0 ∧ N ≤ 0) ∨ (0 < x ∧ x ≤ 1000 ∧ x ≤ (N : Int) ∧ (N : Int) ≤ x) ∨ (1000 < x ∧ 1000 ≤ N) := by unfold T.lim at hN; omega
  have HN : Hid (T.new x = (List.range N).map fun i => i % 8 == 0) := Lib.hid (by unfold T.new; rw [hN])
  clear hN
  obtain ⟨i0, hi0, hz0, hz1, hz2⟩ := info_parts bool_info
  rcases hx with ⟨h1, h2⟩ | hx
  · obtain rfl : N = 0 := by omega
    have hnil : T.new x = [] := by rw [HN.out]; rfl
    rw [hnil]
    clear hnil
    go_enter Try.func18, Try.ntmps18
    go_wp2_with (refine wpList_make_full _ rfl (.tmp 7) (.tmp 7) 22 rfl w.heap.size 4 i0 (.bool false) 1 Try.underlying22 hi0 hz0 hz1 .i64 .i64 _ _ 0 rfl rfl rfl rfl (by rw [hz2]; omega) (by unfold maxLen; omega) (Nat.le_refl _) ?_; intro w1 hown1 hg1)
    have hb1 : Below w.heap.size w w1 := (Below.refl _ _).grown hg1 (Nat.le_refl _) (fun k hk => by cases hk)
    clear hg1
    rw [show (madeCells (Value.bool false).cells (0 * 1)).toList = ([] : List Bool).map Value.bool from madeBools 0] at hown1
    refine wp_loop_rounds 1 ?_
    rw [rounds_succ]
    go_wp2
    go_ret
    exact ⟨_, rfl, hown1, hb1⟩
  rcases hx with ⟨h1, h2, h3, h4⟩ | ⟨h1, h2⟩
  all_goals
    go_enter Try.func18, Try.ntmps18
    go_wp2_with (refine wpList_make_full _ rfl (.tmp 7) (.tmp 7) 22 rfl w.heap.size 4 i0 (.bool false) 1 Try.underlying22 hi0 hz0 hz1 .i64 .i64 _ _ N rfl rfl (by omega) (by omega) (by rw [hz2]; omega) (by unfold maxLen; omega) (Nat.le_refl _) ?_; intro w1 hown1 hg1)
    have hb1 : Below w.heap.size w w1 := (Below.refl _ _).grown hg1 (Nat.le_refl _) (fun k hk => by cases hk)
    rw [show (madeCells (Value.bool false).cells (N * 1)).toList = (T.fill N 0).map Value.bool from by rw [T.fill_zero]; exact madeBools N] at hown1
    clear hg1
    go_loopw [4, 11] (fun _ i wr => ∃ k : Nat, k ≤ N ∧ i = .int .i64 k ∧ wr.ownsRow w.heap.size 4 1 (.slice (some ⟨w.heap.size, 0, none⟩) N N) N ((T.fill N k).map Value.bool) ∧ Below w.heap.size w wr) (fun _ i _ => N - (intOf i).toNat)
    case atStart => exact ⟨0, Nat.zero_le _, rfl, hown1, hb1⟩
    case round =>
      clear hown1 hb1
      obtain ⟨k, hk, rfl, hown, hb⟩ := hrel
      by_cases hlt : k < N
      · obtain ⟨b, hcell⟩ : ∃ b, wr.cell? ⟨w.heap.size, k, none⟩ = some (.bool b) := by
          have h := hown.cellAt k (by omega)
          have hlen := T.length_fill N k hk
          rw [List.getElem?_map, List.getElem?_eq_getElem (by omega)] at h
          exact ⟨_, h⟩
        have hfz := hown.frozenAt k
        have hst : Hid (∀ b, (k % 8 == 0) = b → (wr.setCell ⟨w.heap.size, k, none⟩ (.bool b)).ownsRow w.heap.size 4 1 (.slice (some ⟨w.heap.size, 0, none⟩) N N) N ((T.fill N (k + 1)).map Value.bool)) := Lib.hid (by
          rintro b rfl
          have h := (hown.stored k (.bool (k % 8 == 0))).1
          rwa [← List.map_set, T.fill_succ N k hlt] at h)
        clear hown
        by_cases hm : k % 8 = 0
        · have hmi : ((k : Int) % 8 == 0) = true := by rw [beq_iff_eq]; omega
          have hmn : Hid ((k % 8 == 0) = true) := Lib.hid (by rw [beq_iff_eq]; omega)
          clear hm
          go_wp2
          go_roundw
          case rel => exact ⟨k + 1, hlt, by go_num, hst.out _ hmn.out, hb.setCell (Nat.le_refl _) _⟩
          case measure => simp [intOf] <;> omega
        · have hmi : ((k : Int) % 8 == 0) = false := by rw [beq_eq_false_iff_ne]; omega
          have hmn : Hid ((k % 8 == 0) = false) := Lib.hid (by rw [beq_eq_false_iff_ne]; omega)
          clear hm
          go_wp2
          go_roundw
          case rel => exact ⟨k + 1, hlt, by go_num, hst.out _ hmn.out, hb.setCell (Nat.le_refl _) _⟩
          case measure => simp [intOf] <;> omega
      · obtain rfl : k = N := by omega
        have hlen : (T.new x).length = k := by rw [HN.out]; simp
        have hall : T.fill k k = T.new x := by rw [T.fill_all, HN.out]
        rw [hall] at hown
        have HO : Hid (wr.ownsRow w.heap.size 4 1 (.slice (some ⟨w.heap.size, 0, none⟩) k k) (T.new x).length ((T.new x).map Value.bool)) := Lib.hid (by rw [hlen]; exact hown)
        clear hown hlen hall
        go_wp2
        all_goals go_ret
        all_goals exact ⟨_, rfl, HO.out, hb⟩

/-! ### The reference's Resize and New -/
theorem refresize_any (A : Option Addr) (cap B : Nat) (ls : List Bool) (x : Int) (w : World) (hr : Reads w B 1 A ls.length (ls.map Value.bool)) (hB : B ≤ w.heap.size) (hl : ls.length ≤ 1000) :
    Calls Try.prog 22 #[.slice A ls.length cap, .int .i64 x] w fun e w' => OwnB w w' e (T.resize ls x) := by
  have HR := Lib.hid hr
  clear hr
  obtain ⟨N, hN, hN1⟩ : ∃ N, T.lim x = N ∧ N ≤ 1000 := ⟨_, rfl, T.lim_le x⟩
  have HL : Hid (∀ w, Calls Try.prog 24 #[.int .i64 x] w fun e w' => e = .returned (.int .i64 N) ∧ w = w') := Lib.hid (fun w => by rw [← hN]; exact limited_any x w)
  have HN : Hid (T.resize ls x = (List.range N).map fun i => ls.getD i (i % 8 == 0)) := Lib.hid (by unfold T.resize; rw [hN])
  clear hN
  have own0 := World.ownsRow_lit (base := w.heap.size) (e := 4) (size := 1) w #[] 0 (Nat.le_refl _) (by decide) rfl
  have hb0 : Below w.heap.size w (w.alloc (.cells #[] 4)) := (Below.refl _ _).alloc (Nat.le_refl _) _
  have OWN0 := Lib.hid own0
  clear own0
  obtain ⟨i0, hi0, hz0, hz1, hz2⟩ := info_parts bool_info
  go_enter Try.func22, Try.ntmps22
  go_wp2
  go_loopw [5, 6] (fun v i wr => ∃ k : Nat, k ≤ N ∧ i = .int .i64 k ∧ wr.ownsRow w.heap.size 4 1 v k (((List.range k).map fun i => ls.getD i (i % 8 == 0)).map Value.bool) ∧ Below w.heap.size w wr) (fun _ i _ => N - (intOf i).toNat)
  case atStart => exact ⟨0, Nat.zero_le _, rfl, OWN0.out, hb0⟩
  case round =>
    clear hb0 OWN0
    obtain ⟨k, hk, rfl, hown, hb⟩ := hrel
    go_wp2_with fail
    refine (HL.out _).mono ?_
    rintro e w' ⟨rfl, rfl⟩
    by_cases hlt : k < N
    · have hs : ∀ b, ls.getD k (k % 8 == 0) = b → ((List.range (k + 1)).map fun i => ls.getD i (i % 8 == 0)).map Value.bool = ((List.range k).map fun i => ls.getD i (i % 8 == 0)).map Value.bool ++ [.bool b] := by
        rintro b rfl; rw [List.range_succ, List.map_append, List.map_append]; rfl
      have HS := Lib.hid hs
      clear hs
      by_cases hin : k < ls.length
      · obtain ⟨ad, rfl, hlo, hc0⟩ := HR.out.bool hin
        have hc : wr.cell? (ad.add k) = some (.bool ls[k]) := (hb.cell (by rw [block_of_add]; omega)).trans hc0
        have HE : Hid (ls.getD k (k % 8 == 0) = ls[k]) := Lib.hid (by rw [List.getD_eq_getElem?_getD, List.getElem?_eq_getElem hin]; rfl)
        clear hc0
        generalize ls[k] = b at *
        go_wp2_with (at_builtin; refine wpList_append_any _ rfl (.tmp 18) (.tmp 23) _ rfl w.heap.size 4 i0 _ 1 1 Try.underlying22 hi0 hz0 hz1 hz2 rfl (by omega) _ k _ rfl (hown.alloc _) _ (some ⟨wr.heap.size, 0, none⟩) 1 1 [.bool b] rfl (reads_new wr [.bool b] 4) (by simp [Value.oneCell']) (by simp only [maxLen]; omega) (by omega) (by have := hb.size; simp; omega) ?_; intro v1 w1 hown1 hg1 hat1)
        have hb0 : Below w.heap.size w (wr.alloc (.cells #[.bool b] 4)) := hb.alloc hb.size _
        have hb1 := hb0.grown hg1 hb0.size (own_below hown (Nat.le_refl _))
        rw [← HS.out _ HE.out] at hown1
        clear hg1 hat1 hb0 hc hown
        go_roundw
        case rel => exact ⟨k + 1, hlt, by go_num, hown1, hb1⟩
        case measure => simp [intOf] <;> omega
      · obtain ⟨b, hbm, hbi⟩ : ∃ b : Bool, (k % 8 == 0) = b ∧ (((k : Int) % 8 == 0) = b) := ⟨_, rfl, by
          by_cases h : k % 8 = 0
          · rw [beq_iff_eq.2 h, beq_iff_eq]; omega
          · rw [beq_eq_false_iff_ne.2 h, beq_eq_false_iff_ne]; omega⟩
        have HE : Hid (ls.getD k (k % 8 == 0) = b) := Lib.hid (by rw [List.getD_eq_getElem?_getD, List.getElem?_eq_none (by omega)]; exact hbm)
        clear hbm
        go_wp2_with (at_builtin; refine wpList_append_any _ rfl (.tmp 25) (.tmp 29) _ rfl w.heap.size 4 i0 _ 1 1 Try.underlying22 hi0 hz0 hz1 hz2 rfl (by omega) _ k _ rfl (hown.alloc _) _ (some ⟨wr.heap.size, 0, none⟩) 1 1 [.bool b] rfl (reads_new wr [.bool b] 4) (by simp [Value.oneCell']) (by simp only [maxLen]; omega) (by omega) (by have := hb.size; simp; omega) ?_; intro v1 w1 hown1 hg1 hat1)
        have hb0 : Below w.heap.size w (wr.alloc (.cells #[.bool b] 4)) := hb.alloc hb.size _
        have hb1 := hb0.grown hg1 hb0.size (own_below hown (Nat.le_refl _))
        rw [← HS.out _ HE.out] at hown1
        clear hg1 hat1 hb0 hown
        go_roundw
        case rel => exact ⟨k + 1, hlt, by go_num, hown1, hb1⟩
        case measure => simp [intOf] <;> omega
    · obtain rfl : k = N := by omega
      have hlen : (T.resize ls x).length = k := by rw [HN.out]; simp
      have HO : Hid (∀ v, wr.ownsRow w.heap.size 4 1 v k (((List.range k).map fun i => ls.getD i (i % 8 == 0)).map Value.bool) → wr.ownsRow w.heap.size 4 1 v (T.resize ls x).length ((T.resize ls x).map Value.bool)) := Lib.hid (by rw [hlen, HN.out]; exact fun _ h => h)
      have hown' := HO.out _ hown
      clear hown hlen
      go_wp2
      go_ret
      exact ⟨_, rfl, hown', hb⟩

theorem refnew_any (x : Int) (w : World) : Calls Try.prog 20 #[.int .i64 x] w fun e w' => OwnB w w' e (T.new x) := by
  have H := Lib.hid (refresize_any none 0 0 [] x w Reads.none_ (Nat.zero_le _) (by decide))
  go_enter Try.func20, Try.ntmps20
  go_wp2_with (go_at_call 22; refine H.out.mono ?_; rintro e w' ⟨v, rfl, hown, hb⟩)
  go_ret
  rw [T.resize_nil] at hown
  exact ⟨_, rfl, hown, hb⟩
end Go.Proofs.Yteolkaheaaepiaa
