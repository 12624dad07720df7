/-
  The walks of layer 17: the reference's Same. By an AI agent.
-/
import Derived.Test.YteakiielcmgkeaaChg
import Derived.Test.YteakiielcmgkeaaRk
namespace Go.Proofs.Yteakiielcmgkeaa
set_option linter.unusedSimpArgs false
set_option linter.unusedVariables false
open Go.RowKit Go.Deep

theorem R.map_ne {xs ys : List R.Cs} {k : Nat} (h1 : k < xs.length) (h2 : k < ys.length) (h : xs[k].c ≠ ys[k].c) : xs.map (·.c) ≠ ys.map (·.c) := fun e => h (by
  have := congrArg (fun l => l[k]?) e
  simpa [h1, h2] using this)
set_option linter.unusedSimpArgs false in
set_option maxRecDepth 100000 in
set_option maxHeartbeats 16000000 in
theorem same_any (A1 A2 : Option Addr) (c1 c2 B : Nat) (xs ys : List R.Cs) (w : World) (ha : R.Chs w B A1 xs) (hb : R.Chs w B A2 ys) (hna : xs.length ≤ 100000) (_hnb : ys.length ≤ 100000) (hga : ∀ x ∈ xs, x.c.gl.length ≤ 100000) (hgb : ∀ x ∈ ys, x.c.gl.length ≤ 100000) :
    Calls Try.prog 13 #[.slice A1 xs.length c1, .slice A2 ys.length c2] w fun e w' => e = .returned (.bool (decide (xs.map (·.c) = ys.map (·.c)))) ∧ ∃ n, w' = w.drewN n := by
  have HA := Lib.hid ha
  have HB := Lib.hid hb
  have HGA := Lib.hid hga
  have HGB := Lib.hid hgb
  clear ha hb hga hgb
  by_cases hl : xs.length = ys.length
  · have HL := Lib.hid hl
    have hl1 : ((xs.length : Int) != (ys.length : Int)) = false := by simp [hl]
    have hle : ys.length ≤ xs.length := by omega
    have hle2 : xs.length ≤ ys.length := by omega
    clear hl
    go_enter Try.func13, Try.ntmps13
    go_wp2
    go_loopw [5] (fun i wr => ∃ k : Nat, k ≤ xs.length ∧ i = .int .i64 k ∧ Hid (∀ j (h : j < k) (h1 : j < xs.length) (h2 : j < ys.length), xs[j].c = ys[j].c) ∧ ∃ n, wr = w.drewN n) (fun i _ => xs.length - (intOf i).toNat)
    case atStart => exact ⟨0, Nat.zero_le _, rfl, Lib.hid (fun j h => absurd h (by omega)), 0, rfl⟩
    case round =>
      obtain ⟨k, hk, rfl, hprev, n, rfl⟩ := hrel
      by_cases hlt : k < xs.length
      · have hlt2 : k < ys.length := by omega
        obtain ⟨b1, o1, rfl, _, h1⟩ := HA.out.at_ (by omega)
        obtain ⟨b2, o2, rfl, _, h2⟩ := HB.out.at_ (by omega)
        obtain ⟨x0, x1, x2, x3, x4, x5⟩ := h1 k hlt
        obtain ⟨y0, y1, y2, y3, y4, y5⟩ := h2 k hlt2
        obtain ⟨A3, c3, s3, r3, _⟩ := HA.out.gl xs[k] (List.getElem_mem hlt)
        obtain ⟨A4, c4, s4, r4, _⟩ := HB.out.gl ys[k] (List.getElem_mem hlt2)
        rw [s3] at x5
        rw [s4] at y5
        have GL := Lib.hid (fun w1 (h1 : Reads w1 B 3 A3 xs[k].c.gl.length (R.gcs xs[k].c.gl)) (h2 : Reads w1 B 3 A4 ys[k].c.gl.length (R.gcs ys[k].c.gl)) => sameglyphs_any A3 A4 c3 c4 B xs[k].c.gl ys[k].c.gl w1 h1 h2 (by have := HGA.out _ (List.getElem_mem hlt); omega) (by have := HGB.out _ (List.getElem_mem hlt2); omega))
        have R3 := Lib.hid r3
        have R4 := Lib.hid r4
        have NE := Lib.hid (fun (h : xs[k].c ≠ ys[k].c) => R.map_ne hlt hlt2 h)
        have EX : Hid (xs[k].c = xs[k].c) := Lib.hid rfl
        have PV : Hid (xs[k].c = ys[k].c → ∀ j (h : j < k + 1) (h1 : j < xs.length) (h2 : j < ys.length), xs[j].c = ys[j].c) := Lib.hid (fun e j hj g1 g2 => by
          by_cases ej : j = k
          · subst ej; exact e
          · exact hprev.out j (by omega) g1 g2)
        have q1 : (0 : Int) ≤ (k : Int) := by omega
        have q2 : (k : Int) < (xs.length : Int) := by omega
        have q3 : (k : Int) < (ys.length : Int) := by omega
        clear h1 h2 s3 s4 r3 r4 hprev EX
        generalize xs[k].c = cx at *
        generalize ys[k].c = cy at *
        obtain ⟨p0, p1, p2, p3, p4, g1⟩ := cx
        obtain ⟨r0, r1, r2, r3, r4, g2⟩ := cy
        dsimp only at x0 x1 x2 x3 x4 x5 y0 y1 y2 y3 y4 y5 GL R3 R4
        have GL2 : Hid (∀ m : Nat, Calls Try.prog 18 #[.slice A3 g1.length c3, .slice A4 g2.length c4] (w.drewN m) fun e w' => e = .returned (.bool (decide (g1 = g2))) ∧ ∃ n, w' = (w.drewN m).drewN n) := Lib.hid (fun m => GL.out _ (R3.out.drewN m) (R4.out.drewN m))
        clear GL R3 R4
        obtain ⟨n1, hn1⟩ : ∃ n, g1.length = n := ⟨_, rfl⟩
        obtain ⟨n2, hn2⟩ : ∃ n, g2.length = n := ⟨_, rfl⟩
        rw [hn1] at x5 GL2
        rw [hn2] at y5 GL2
        clear hn1 hn2
        by_cases e0 : p0 = r0
        case neg =>
          ·
            have hb : (p0 != r0) = true := bne_iff_ne.2 e0
            have hne : Hid (decide (xs.map (·.c) = ys.map (·.c)) = false) := Lib.hid (decide_eq_false (NE.out (fun h => e0 (by injection h))))
            clear e0 NE PV GL2
            go_wp2_with fail
            try simp only [List.append_eq, List.cons_append, List.nil_append]
            refine wp_region_held_drew (S := fun w' => w'.cell? ⟨b1, o1 + k * 6, none⟩ = some (.int .i64 p0) ∧ w'.cell? ⟨b1, o1 + k * 6 + 1, none⟩ = some (.int .i64 p1) ∧ w'.cell? ⟨b1, o1 + k * 6 + 2, none⟩ = some (.int .i64 p2) ∧ w'.cell? ⟨b1, o1 + k * 6 + 3, none⟩ = some (.int .i64 p3) ∧ w'.cell? ⟨b1, o1 + k * 6 + 4, none⟩ = some (.int .i64 p4) ∧ w'.cell? ⟨b1, o1 + k * 6 + 5, none⟩ = some (.slice A3 n1 c3) ∧ w'.cell? ⟨b2, o2 + k * 6, none⟩ = some (.int .i64 r0) ∧ w'.cell? ⟨b2, o2 + k * 6 + 1, none⟩ = some (.int .i64 r1) ∧ w'.cell? ⟨b2, o2 + k * 6 + 2, none⟩ = some (.int .i64 r2) ∧ w'.cell? ⟨b2, o2 + k * 6 + 3, none⟩ = some (.int .i64 r3) ∧ w'.cell? ⟨b2, o2 + k * 6 + 4, none⟩ = some (.int .i64 r4) ∧ w'.cell? ⟨b2, o2 + k * 6 + 5, none⟩ = some (.slice A4 n2 c4) ∧ ∃ n, w' = w.drewN n) (by kernel_rfl) ⟨x0, x1, x2, x3, x4, x5, y0, y1, y2, y3, y4, y5, n + 1, rfl⟩ (fun hHeld => ?_)
            refine tk 0 rfl (by kernel_rfl) hHeld (fun _ _ _ h => h) (v := ?_) ?_ ?_
            rotate_left 1
            · (intro w hSw; (try dsimp only at hSw); (try simp only [List.getElem_toArray, List.getElem_cons_succ, List.getElem_cons_zero]); go_simp) <;> (with_reducible rfl)
            try simp only [List.getElem_toArray, List.getElem_cons_succ, List.getElem_cons_zero, Act.put, List.setIfInBounds_toArray, List.set_cons_zero, List.set_cons_succ]
            refine tk 1 rfl (by kernel_rfl) hHeld (fun _ _ _ h => h) (v := ?_) ?_ ?_
            rotate_left 1
            · (intro w hSw; (try dsimp only at hSw); (try simp only [List.getElem_toArray, List.getElem_cons_succ, List.getElem_cons_zero]); go_simp) <;> (with_reducible rfl)
            try simp only [List.getElem_toArray, List.getElem_cons_succ, List.getElem_cons_zero, Act.put, List.setIfInBounds_toArray, List.set_cons_zero, List.set_cons_succ]
            refine tk 2 rfl (by kernel_rfl) hHeld (fun _ _ _ h => h) (v := ?_) ?_ ?_
            rotate_left 1
            · (intro w hSw; (try dsimp only at hSw); (try simp only [List.getElem_toArray, List.getElem_cons_succ, List.getElem_cons_zero]); go_simp) <;> (with_reducible rfl)
            try simp only [List.getElem_toArray, List.getElem_cons_succ, List.getElem_cons_zero, Act.put, List.setIfInBounds_toArray, List.set_cons_zero, List.set_cons_succ]
            refine tk 3 rfl (by kernel_rfl) hHeld (fun _ _ _ h => h) (v := ?_) ?_ ?_
            rotate_left 1
            · (intro w hSw; (try dsimp only at hSw); (try simp only [List.getElem_toArray, List.getElem_cons_succ, List.getElem_cons_zero]); go_simp) <;> (with_reducible rfl)
            try simp only [List.getElem_toArray, List.getElem_cons_succ, List.getElem_cons_zero, Act.put, List.setIfInBounds_toArray, List.set_cons_zero, List.set_cons_succ]
            refine tk 4 rfl (by kernel_rfl) hHeld (fun _ _ _ h => h) (v := ?_) ?_ ?_
            rotate_left 1
            · (intro w hSw; (try dsimp only at hSw); (try simp only [List.getElem_toArray, List.getElem_cons_succ, List.getElem_cons_zero]); go_simp) <;> (with_reducible rfl)
            try simp only [List.getElem_toArray, List.getElem_cons_succ, List.getElem_cons_zero, Act.put, List.setIfInBounds_toArray, List.set_cons_zero, List.set_cons_succ]
            refine tk 5 rfl (by kernel_rfl) hHeld (fun _ _ _ h => h) (v := ?_) ?_ ?_
            rotate_left 1
            · (intro w hSw; (try dsimp only at hSw); (try simp only [List.getElem_toArray, List.getElem_cons_succ, List.getElem_cons_zero]); go_simp) <;> (with_reducible rfl)
            try simp only [List.getElem_toArray, List.getElem_cons_succ, List.getElem_cons_zero, Act.put, List.setIfInBounds_toArray, List.set_cons_zero, List.set_cons_succ]
            refine tk 6 rfl (by kernel_rfl) hHeld (fun _ _ _ h => h) (v := ?_) ?_ ?_
            rotate_left 1
            · (intro w hSw; (try dsimp only at hSw); (try simp only [List.getElem_toArray, List.getElem_cons_succ, List.getElem_cons_zero]); go_simp) <;> (with_reducible rfl)
            try simp only [List.getElem_toArray, List.getElem_cons_succ, List.getElem_cons_zero, Act.put, List.setIfInBounds_toArray, List.set_cons_zero, List.set_cons_succ]
            refine tk 7 rfl (by kernel_rfl) hHeld (fun _ _ _ h => h) (v := ?_) ?_ ?_
            rotate_left 1
            · (intro w hSw; (try dsimp only at hSw); (try simp only [List.getElem_toArray, List.getElem_cons_succ, List.getElem_cons_zero]); go_simp) <;> (with_reducible rfl)
            try simp only [List.getElem_toArray, List.getElem_cons_succ, List.getElem_cons_zero, Act.put, List.setIfInBounds_toArray, List.set_cons_zero, List.set_cons_succ]
            refine tk 8 rfl (by kernel_rfl) hHeld (fun _ _ _ h => h) (v := ?_) ?_ ?_
            rotate_left 1
            · (intro w hSw; (try dsimp only at hSw); (try simp only [List.getElem_toArray, List.getElem_cons_succ, List.getElem_cons_zero]); go_simp) <;> (with_reducible rfl)
            try simp only [List.getElem_toArray, List.getElem_cons_succ, List.getElem_cons_zero, Act.put, List.setIfInBounds_toArray, List.set_cons_zero, List.set_cons_succ]
            refine tk 9 rfl (by kernel_rfl) hHeld (fun _ _ _ h => h) (v := ?_) ?_ ?_
            rotate_left 1
            · (intro w hSw; (try dsimp only at hSw); (try simp only [List.getElem_toArray, List.getElem_cons_succ, List.getElem_cons_zero]); go_simp) <;> (with_reducible rfl)
            try simp only [List.getElem_toArray, List.getElem_cons_succ, List.getElem_cons_zero, Act.put, List.setIfInBounds_toArray, List.set_cons_zero, List.set_cons_succ]
            refine tk 10 rfl (by kernel_rfl) hHeld (fun _ _ _ h => h) (v := ?_) ?_ ?_
            rotate_left 1
            · (intro w hSw; (try dsimp only at hSw); (try simp only [List.getElem_toArray, List.getElem_cons_succ, List.getElem_cons_zero]); go_simp) <;> (with_reducible rfl)
            try simp only [List.getElem_toArray, List.getElem_cons_succ, List.getElem_cons_zero, Act.put, List.setIfInBounds_toArray, List.set_cons_zero, List.set_cons_succ]
            refine tk 11 rfl (by kernel_rfl) hHeld (fun _ _ _ h => h) (v := ?_) ?_ ?_
            rotate_left 1
            · (intro w hSw; (try dsimp only at hSw); (try simp only [List.getElem_toArray, List.getElem_cons_succ, List.getElem_cons_zero]); go_simp) <;> (with_reducible rfl)
            try simp only [List.getElem_toArray, List.getElem_cons_succ, List.getElem_cons_zero, Act.put, List.setIfInBounds_toArray, List.set_cons_zero, List.set_cons_succ]
            refine sk 12 rfl (by kernel_rfl) hHeld (fun _ _ _ h => h) ?_
            try simp only [List.getElem_toArray, List.getElem_cons_succ, List.getElem_cons_zero, Act.put, List.setIfInBounds_toArray, List.set_cons_zero, List.set_cons_succ]
            refine sk 13 rfl (by kernel_rfl) hHeld (fun _ _ _ h => h) ?_
            try simp only [List.getElem_toArray, List.getElem_cons_succ, List.getElem_cons_zero, Act.put, List.setIfInBounds_toArray, List.set_cons_zero, List.set_cons_succ]
            refine sk 14 rfl (by kernel_rfl) hHeld (fun _ _ _ h => h) ?_
            try simp only [List.getElem_toArray, List.getElem_cons_succ, List.getElem_cons_zero, Act.put, List.setIfInBounds_toArray, List.set_cons_zero, List.set_cons_succ]
            refine sk 15 rfl (by kernel_rfl) hHeld (fun _ _ _ h => h) ?_
            try simp only [List.getElem_toArray, List.getElem_cons_succ, List.getElem_cons_zero, Act.put, List.setIfInBounds_toArray, List.set_cons_zero, List.set_cons_succ]
            refine sk 16 rfl (by kernel_rfl) hHeld (fun _ _ _ h => h) ?_
            try simp only [List.getElem_toArray, List.getElem_cons_succ, List.getElem_cons_zero, Act.put, List.setIfInBounds_toArray, List.set_cons_zero, List.set_cons_succ]
            refine sk 17 rfl (by kernel_rfl) hHeld (fun _ _ _ h => h) ?_
            try simp only [List.getElem_toArray, List.getElem_cons_succ, List.getElem_cons_zero, Act.put, List.setIfInBounds_toArray, List.set_cons_zero, List.set_cons_succ]
            refine sk 18 rfl (by kernel_rfl) hHeld (fun _ _ _ h => h) ?_
            try simp only [List.getElem_toArray, List.getElem_cons_succ, List.getElem_cons_zero, Act.put, List.setIfInBounds_toArray, List.set_cons_zero, List.set_cons_succ]
            refine sk 19 rfl (by kernel_rfl) hHeld (fun _ _ _ h => h) ?_
            try simp only [List.getElem_toArray, List.getElem_cons_succ, List.getElem_cons_zero, Act.put, List.setIfInBounds_toArray, List.set_cons_zero, List.set_cons_succ]
            refine sk 20 rfl (by kernel_rfl) hHeld (fun _ _ _ h => h) ?_
            try simp only [List.getElem_toArray, List.getElem_cons_succ, List.getElem_cons_zero, Act.put, List.setIfInBounds_toArray, List.set_cons_zero, List.set_cons_succ]
            refine sk 21 rfl (by kernel_rfl) hHeld (fun _ _ _ h => h) ?_
            try simp only [List.getElem_toArray, List.getElem_cons_succ, List.getElem_cons_zero, Act.put, List.setIfInBounds_toArray, List.set_cons_zero, List.set_cons_succ]
            refine sk 22 rfl (by kernel_rfl) hHeld (fun _ _ _ h => h) ?_
            try simp only [List.getElem_toArray, List.getElem_cons_succ, List.getElem_cons_zero, Act.put, List.setIfInBounds_toArray, List.set_cons_zero, List.set_cons_succ]
            refine tk 23 rfl (by kernel_rfl) hHeld (fun _ _ _ h => h) (v := ?_) ?_ ?_
            rotate_left 1
            · (intro w hSw; (try dsimp only at hSw); (try simp only [List.getElem_toArray, List.getElem_cons_succ, List.getElem_cons_zero]); go_simp) <;> (with_reducible rfl)
            try simp only [List.getElem_toArray, List.getElem_cons_succ, List.getElem_cons_zero, Act.put, List.setIfInBounds_toArray, List.set_cons_zero, List.set_cons_succ]
            refine tk 24 rfl (by kernel_rfl) hHeld (fun _ _ _ h => h) (v := ?_) ?_ ?_
            rotate_left 1
            · (intro w hSw; (try dsimp only at hSw); (try simp only [List.getElem_toArray, List.getElem_cons_succ, List.getElem_cons_zero]); go_simp) <;> (with_reducible rfl)
            try simp only [List.getElem_toArray, List.getElem_cons_succ, List.getElem_cons_zero, Act.put, List.setIfInBounds_toArray, List.set_cons_zero, List.set_cons_succ]
            refine sk 25 rfl (by kernel_rfl) hHeld (fun _ _ _ h => h) ?_
            try simp only [List.getElem_toArray, List.getElem_cons_succ, List.getElem_cons_zero, Act.put, List.setIfInBounds_toArray, List.set_cons_zero, List.set_cons_succ]
            refine sk 26 rfl (by kernel_rfl) hHeld (fun _ _ _ h => h) ?_
            try simp only [List.getElem_toArray, List.getElem_cons_succ, List.getElem_cons_zero, Act.put, List.setIfInBounds_toArray, List.set_cons_zero, List.set_cons_succ]
            refine sk 27 rfl (by kernel_rfl) hHeld (fun _ _ _ h => h) ?_
            try simp only [List.getElem_toArray, List.getElem_cons_succ, List.getElem_cons_zero, Act.put, List.setIfInBounds_toArray, List.set_cons_zero, List.set_cons_succ]
            refine sk 28 rfl (by kernel_rfl) hHeld (fun _ _ _ h => h) ?_
            try simp only [List.getElem_toArray, List.getElem_cons_succ, List.getElem_cons_zero, Act.put, List.setIfInBounds_toArray, List.set_cons_zero, List.set_cons_succ]
            refine sk 29 rfl (by kernel_rfl) hHeld (fun _ _ _ h => h) ?_
            try simp only [List.getElem_toArray, List.getElem_cons_succ, List.getElem_cons_zero, Act.put, List.setIfInBounds_toArray, List.set_cons_zero, List.set_cons_succ]
            refine sk 30 rfl (by kernel_rfl) hHeld (fun _ _ _ h => h) ?_
            try simp only [List.getElem_toArray, List.getElem_cons_succ, List.getElem_cons_zero, Act.put, List.setIfInBounds_toArray, List.set_cons_zero, List.set_cons_succ]
            refine sk 31 rfl (by kernel_rfl) hHeld (fun _ _ _ h => h) ?_
            try simp only [List.getElem_toArray, List.getElem_cons_succ, List.getElem_cons_zero, Act.put, List.setIfInBounds_toArray, List.set_cons_zero, List.set_cons_succ]
            refine sk 32 rfl (by kernel_rfl) hHeld (fun _ _ _ h => h) ?_
            try simp only [List.getElem_toArray, List.getElem_cons_succ, List.getElem_cons_zero, Act.put, List.setIfInBounds_toArray, List.set_cons_zero, List.set_cons_succ]
            refine sk 33 rfl (by kernel_rfl) hHeld (fun _ _ _ h => h) ?_
            try simp only [List.getElem_toArray, List.getElem_cons_succ, List.getElem_cons_zero, Act.put, List.setIfInBounds_toArray, List.set_cons_zero, List.set_cons_succ]
            refine sk 34 rfl (by kernel_rfl) hHeld (fun _ _ _ h => h) ?_
            try simp only [List.getElem_toArray, List.getElem_cons_succ, List.getElem_cons_zero, Act.put, List.setIfInBounds_toArray, List.set_cons_zero, List.set_cons_succ]
            refine sk 35 rfl (by kernel_rfl) hHeld (fun _ _ _ h => h) ?_
            try simp only [List.getElem_toArray, List.getElem_cons_succ, List.getElem_cons_zero, Act.put, List.setIfInBounds_toArray, List.set_cons_zero, List.set_cons_succ]
            refine tk 36 rfl (by kernel_rfl) hHeld (fun _ _ _ h => h) (v := ?_) ?_ ?_
            rotate_left 1
            · (intro w hSw; (try dsimp only at hSw); (try simp only [List.getElem_toArray, List.getElem_cons_succ, List.getElem_cons_zero]); go_simp) <;> (with_reducible rfl)
            try simp only [List.getElem_toArray, List.getElem_cons_succ, List.getElem_cons_zero, Act.put, List.setIfInBounds_toArray, List.set_cons_zero, List.set_cons_succ]
            refine tk 37 rfl (by kernel_rfl) hHeld (fun _ _ _ h => h) (v := ?_) ?_ ?_
            rotate_left 1
            · (intro w hSw; (try dsimp only at hSw); (try simp only [List.getElem_toArray, List.getElem_cons_succ, List.getElem_cons_zero]); go_simp) <;> (with_reducible rfl)
            try simp only [List.getElem_toArray, List.getElem_cons_succ, List.getElem_cons_zero, Act.put, List.setIfInBounds_toArray, List.set_cons_zero, List.set_cons_succ]
            refine sk 38 rfl (by kernel_rfl) hHeld (fun _ _ _ h => h) ?_
            try simp only [List.getElem_toArray, List.getElem_cons_succ, List.getElem_cons_zero, Act.put, List.setIfInBounds_toArray, List.set_cons_zero, List.set_cons_succ]
            refine sk 39 rfl (by kernel_rfl) hHeld (fun _ _ _ h => h) ?_
            try simp only [List.getElem_toArray, List.getElem_cons_succ, List.getElem_cons_zero, Act.put, List.setIfInBounds_toArray, List.set_cons_zero, List.set_cons_succ]
            refine sk 40 rfl (by kernel_rfl) hHeld (fun _ _ _ h => h) ?_
            try simp only [List.getElem_toArray, List.getElem_cons_succ, List.getElem_cons_zero, Act.put, List.setIfInBounds_toArray, List.set_cons_zero, List.set_cons_succ]
            refine sk 41 rfl (by kernel_rfl) hHeld (fun _ _ _ h => h) ?_
            try simp only [List.getElem_toArray, List.getElem_cons_succ, List.getElem_cons_zero, Act.put, List.setIfInBounds_toArray, List.set_cons_zero, List.set_cons_succ]
            refine sk 42 rfl (by kernel_rfl) hHeld (fun _ _ _ h => h) ?_
            try simp only [List.getElem_toArray, List.getElem_cons_succ, List.getElem_cons_zero, Act.put, List.setIfInBounds_toArray, List.set_cons_zero, List.set_cons_succ]
            refine sk 43 rfl (by kernel_rfl) hHeld (fun _ _ _ h => h) ?_
            try simp only [List.getElem_toArray, List.getElem_cons_succ, List.getElem_cons_zero, Act.put, List.setIfInBounds_toArray, List.set_cons_zero, List.set_cons_succ]
            refine sk 44 rfl (by kernel_rfl) hHeld (fun _ _ _ h => h) ?_
            try simp only [List.getElem_toArray, List.getElem_cons_succ, List.getElem_cons_zero, Act.put, List.setIfInBounds_toArray, List.set_cons_zero, List.set_cons_succ]
            refine sk 45 rfl (by kernel_rfl) hHeld (fun _ _ _ h => h) ?_
            try simp only [List.getElem_toArray, List.getElem_cons_succ, List.getElem_cons_zero, Act.put, List.setIfInBounds_toArray, List.set_cons_zero, List.set_cons_succ]
            refine sk 46 rfl (by kernel_rfl) hHeld (fun _ _ _ h => h) ?_
            try simp only [List.getElem_toArray, List.getElem_cons_succ, List.getElem_cons_zero, Act.put, List.setIfInBounds_toArray, List.set_cons_zero, List.set_cons_succ]
            refine sk 47 rfl (by kernel_rfl) hHeld (fun _ _ _ h => h) ?_
            try simp only [List.getElem_toArray, List.getElem_cons_succ, List.getElem_cons_zero, Act.put, List.setIfInBounds_toArray, List.set_cons_zero, List.set_cons_succ]
            refine sk 48 rfl (by kernel_rfl) hHeld (fun _ _ _ h => h) ?_
            try simp only [List.getElem_toArray, List.getElem_cons_succ, List.getElem_cons_zero, Act.put, List.setIfInBounds_toArray, List.set_cons_zero, List.set_cons_succ]
            refine tk 49 rfl (by kernel_rfl) hHeld (fun _ _ _ h => h) (v := ?_) ?_ ?_
            rotate_left 1
            · (intro w hSw; (try dsimp only at hSw); (try simp only [List.getElem_toArray, List.getElem_cons_succ, List.getElem_cons_zero]); go_simp) <;> (with_reducible rfl)
            try simp only [List.getElem_toArray, List.getElem_cons_succ, List.getElem_cons_zero, Act.put, List.setIfInBounds_toArray, List.set_cons_zero, List.set_cons_succ]
            refine tk 50 rfl (by kernel_rfl) hHeld (fun _ _ _ h => h) (v := ?_) ?_ ?_
            rotate_left 1
            · (intro w hSw; (try dsimp only at hSw); (try simp only [List.getElem_toArray, List.getElem_cons_succ, List.getElem_cons_zero]); go_simp) <;> (with_reducible rfl)
            try simp only [List.getElem_toArray, List.getElem_cons_succ, List.getElem_cons_zero, Act.put, List.setIfInBounds_toArray, List.set_cons_zero, List.set_cons_succ]
            refine sk 51 rfl (by kernel_rfl) hHeld (fun _ _ _ h => h) ?_
            try simp only [List.getElem_toArray, List.getElem_cons_succ, List.getElem_cons_zero, Act.put, List.setIfInBounds_toArray, List.set_cons_zero, List.set_cons_succ]
            refine sk 52 rfl (by kernel_rfl) hHeld (fun _ _ _ h => h) ?_
            try simp only [List.getElem_toArray, List.getElem_cons_succ, List.getElem_cons_zero, Act.put, List.setIfInBounds_toArray, List.set_cons_zero, List.set_cons_succ]
            refine sk 53 rfl (by kernel_rfl) hHeld (fun _ _ _ h => h) ?_
            try simp only [List.getElem_toArray, List.getElem_cons_succ, List.getElem_cons_zero, Act.put, List.setIfInBounds_toArray, List.set_cons_zero, List.set_cons_succ]
            refine sk 54 rfl (by kernel_rfl) hHeld (fun _ _ _ h => h) ?_
            try simp only [List.getElem_toArray, List.getElem_cons_succ, List.getElem_cons_zero, Act.put, List.setIfInBounds_toArray, List.set_cons_zero, List.set_cons_succ]
            refine sk 55 rfl (by kernel_rfl) hHeld (fun _ _ _ h => h) ?_
            try simp only [List.getElem_toArray, List.getElem_cons_succ, List.getElem_cons_zero, Act.put, List.setIfInBounds_toArray, List.set_cons_zero, List.set_cons_succ]
            refine sk 56 rfl (by kernel_rfl) hHeld (fun _ _ _ h => h) ?_
            try simp only [List.getElem_toArray, List.getElem_cons_succ, List.getElem_cons_zero, Act.put, List.setIfInBounds_toArray, List.set_cons_zero, List.set_cons_succ]
            refine sk 57 rfl (by kernel_rfl) hHeld (fun _ _ _ h => h) ?_
            try simp only [List.getElem_toArray, List.getElem_cons_succ, List.getElem_cons_zero, Act.put, List.setIfInBounds_toArray, List.set_cons_zero, List.set_cons_succ]
            refine sk 58 rfl (by kernel_rfl) hHeld (fun _ _ _ h => h) ?_
            try simp only [List.getElem_toArray, List.getElem_cons_succ, List.getElem_cons_zero, Act.put, List.setIfInBounds_toArray, List.set_cons_zero, List.set_cons_succ]
            refine sk 59 rfl (by kernel_rfl) hHeld (fun _ _ _ h => h) ?_
            try simp only [List.getElem_toArray, List.getElem_cons_succ, List.getElem_cons_zero, Act.put, List.setIfInBounds_toArray, List.set_cons_zero, List.set_cons_succ]
            refine sk 60 rfl (by kernel_rfl) hHeld (fun _ _ _ h => h) ?_
            try simp only [List.getElem_toArray, List.getElem_cons_succ, List.getElem_cons_zero, Act.put, List.setIfInBounds_toArray, List.set_cons_zero, List.set_cons_succ]
            refine sk 61 rfl (by kernel_rfl) hHeld (fun _ _ _ h => h) ?_
            try simp only [List.getElem_toArray, List.getElem_cons_succ, List.getElem_cons_zero, Act.put, List.setIfInBounds_toArray, List.set_cons_zero, List.set_cons_succ]
            refine tk 62 rfl (by kernel_rfl) hHeld (fun _ _ _ h => h) (v := ?_) ?_ ?_
            rotate_left 1
            · (intro w hSw; (try dsimp only at hSw); (try simp only [List.getElem_toArray, List.getElem_cons_succ, List.getElem_cons_zero]); go_simp) <;> (with_reducible rfl)
            try simp only [List.getElem_toArray, List.getElem_cons_succ, List.getElem_cons_zero, Act.put, List.setIfInBounds_toArray, List.set_cons_zero, List.set_cons_succ]
            refine tk 63 rfl (by kernel_rfl) hHeld (fun _ _ _ h => h) (v := ?_) ?_ ?_
            rotate_left 1
            · (intro w hSw; (try dsimp only at hSw); (try simp only [List.getElem_toArray, List.getElem_cons_succ, List.getElem_cons_zero]); go_simp) <;> (with_reducible rfl)
            try simp only [List.getElem_toArray, List.getElem_cons_succ, List.getElem_cons_zero, Act.put, List.setIfInBounds_toArray, List.set_cons_zero, List.set_cons_succ]
            refine sk 64 rfl (by kernel_rfl) hHeld (fun _ _ _ h => h) ?_
            try simp only [List.getElem_toArray, List.getElem_cons_succ, List.getElem_cons_zero, Act.put, List.setIfInBounds_toArray, List.set_cons_zero, List.set_cons_succ]
            refine sk 65 rfl (by kernel_rfl) hHeld (fun _ _ _ h => h) ?_
            try simp only [List.getElem_toArray, List.getElem_cons_succ, List.getElem_cons_zero, Act.put, List.setIfInBounds_toArray, List.set_cons_zero, List.set_cons_succ]
            refine sk 66 rfl (by kernel_rfl) hHeld (fun _ _ _ h => h) ?_
            try simp only [List.getElem_toArray, List.getElem_cons_succ, List.getElem_cons_zero, Act.put, List.setIfInBounds_toArray, List.set_cons_zero, List.set_cons_succ]
            refine sk 67 rfl (by kernel_rfl) hHeld (fun _ _ _ h => h) ?_
            try simp only [List.getElem_toArray, List.getElem_cons_succ, List.getElem_cons_zero, Act.put, List.setIfInBounds_toArray, List.set_cons_zero, List.set_cons_succ]
            refine sk 68 rfl (by kernel_rfl) hHeld (fun _ _ _ h => h) ?_
            try simp only [List.getElem_toArray, List.getElem_cons_succ, List.getElem_cons_zero, Act.put, List.setIfInBounds_toArray, List.set_cons_zero, List.set_cons_succ]
            refine sk 69 rfl (by kernel_rfl) hHeld (fun _ _ _ h => h) ?_
            try simp only [List.getElem_toArray, List.getElem_cons_succ, List.getElem_cons_zero, Act.put, List.setIfInBounds_toArray, List.set_cons_zero, List.set_cons_succ]
            refine sk 70 rfl (by kernel_rfl) hHeld (fun _ _ _ h => h) ?_
            try simp only [List.getElem_toArray, List.getElem_cons_succ, List.getElem_cons_zero, Act.put, List.setIfInBounds_toArray, List.set_cons_zero, List.set_cons_succ]
            refine sk 71 rfl (by kernel_rfl) hHeld (fun _ _ _ h => h) ?_
            try simp only [List.getElem_toArray, List.getElem_cons_succ, List.getElem_cons_zero, Act.put, List.setIfInBounds_toArray, List.set_cons_zero, List.set_cons_succ]
            refine sk 72 rfl (by kernel_rfl) hHeld (fun _ _ _ h => h) ?_
            try simp only [List.getElem_toArray, List.getElem_cons_succ, List.getElem_cons_zero, Act.put, List.setIfInBounds_toArray, List.set_cons_zero, List.set_cons_succ]
            refine sk 73 rfl (by kernel_rfl) hHeld (fun _ _ _ h => h) ?_
            try simp only [List.getElem_toArray, List.getElem_cons_succ, List.getElem_cons_zero, Act.put, List.setIfInBounds_toArray, List.set_cons_zero, List.set_cons_succ]
            refine sk 74 rfl (by kernel_rfl) hHeld (fun _ _ _ h => h) ?_
            try simp only [List.getElem_toArray, List.getElem_cons_succ, List.getElem_cons_zero, Act.put, List.setIfInBounds_toArray, List.set_cons_zero, List.set_cons_succ]
            refine sk 75 rfl (by kernel_rfl) hHeld (fun _ _ _ h => h) ?_
            try simp only [List.getElem_toArray, List.getElem_cons_succ, List.getElem_cons_zero, Act.put, List.setIfInBounds_toArray, List.set_cons_zero, List.set_cons_succ]
            refine tk 76 rfl (by kernel_rfl) hHeld (fun _ _ _ h => h) (v := ?_) ?_ ?_
            rotate_left 1
            · (intro w hSw; (try dsimp only at hSw); (try simp only [List.getElem_toArray, List.getElem_cons_succ, List.getElem_cons_zero]); go_simp) <;> (with_reducible rfl)
            try simp only [List.getElem_toArray, List.getElem_cons_succ, List.getElem_cons_zero, Act.put, List.setIfInBounds_toArray, List.set_cons_zero, List.set_cons_succ]
            refine wpAnyH_done (by kernel_rfl) ?_ _
            obtain ⟨n', hn'⟩ := hHeld.2.2.2.2.2.2.2.2.2.2.2.2
            go_wp2_with fail
            go_ret
            exact ⟨ret_bool hne.out.symm, n', hn'⟩
        subst e0
        by_cases e1 : p1 = r1
        case neg =>
          ·
            have hb : (p1 != r1) = true := bne_iff_ne.2 e1
            have hne : Hid (decide (xs.map (·.c) = ys.map (·.c)) = false) := Lib.hid (decide_eq_false (NE.out (fun h => e1 (by injection h))))
            clear e1 NE PV GL2
            go_wp2_with fail
            try simp only [List.append_eq, List.cons_append, List.nil_append]
            refine wp_region_held_drew (S := fun w' => w'.cell? ⟨b1, o1 + k * 6, none⟩ = some (.int .i64 p0) ∧ w'.cell? ⟨b1, o1 + k * 6 + 1, none⟩ = some (.int .i64 p1) ∧ w'.cell? ⟨b1, o1 + k * 6 + 2, none⟩ = some (.int .i64 p2) ∧ w'.cell? ⟨b1, o1 + k * 6 + 3, none⟩ = some (.int .i64 p3) ∧ w'.cell? ⟨b1, o1 + k * 6 + 4, none⟩ = some (.int .i64 p4) ∧ w'.cell? ⟨b1, o1 + k * 6 + 5, none⟩ = some (.slice A3 n1 c3) ∧ w'.cell? ⟨b2, o2 + k * 6, none⟩ = some (.int .i64 p0) ∧ w'.cell? ⟨b2, o2 + k * 6 + 1, none⟩ = some (.int .i64 r1) ∧ w'.cell? ⟨b2, o2 + k * 6 + 2, none⟩ = some (.int .i64 r2) ∧ w'.cell? ⟨b2, o2 + k * 6 + 3, none⟩ = some (.int .i64 r3) ∧ w'.cell? ⟨b2, o2 + k * 6 + 4, none⟩ = some (.int .i64 r4) ∧ w'.cell? ⟨b2, o2 + k * 6 + 5, none⟩ = some (.slice A4 n2 c4) ∧ ∃ n, w' = w.drewN n) (by kernel_rfl) ⟨x0, x1, x2, x3, x4, x5, y0, y1, y2, y3, y4, y5, n + 1, rfl⟩ (fun hHeld => ?_)
            refine tk 0 rfl (by kernel_rfl) hHeld (fun _ _ _ h => h) (v := ?_) ?_ ?_
            rotate_left 1
            · (intro w hSw; (try dsimp only at hSw); (try simp only [List.getElem_toArray, List.getElem_cons_succ, List.getElem_cons_zero]); go_simp) <;> (with_reducible rfl)
            try simp only [List.getElem_toArray, List.getElem_cons_succ, List.getElem_cons_zero, Act.put, List.setIfInBounds_toArray, List.set_cons_zero, List.set_cons_succ]
            refine tk 1 rfl (by kernel_rfl) hHeld (fun _ _ _ h => h) (v := ?_) ?_ ?_
            rotate_left 1
            · (intro w hSw; (try dsimp only at hSw); (try simp only [List.getElem_toArray, List.getElem_cons_succ, List.getElem_cons_zero]); go_simp) <;> (with_reducible rfl)
            try simp only [List.getElem_toArray, List.getElem_cons_succ, List.getElem_cons_zero, Act.put, List.setIfInBounds_toArray, List.set_cons_zero, List.set_cons_succ]
            refine tk 2 rfl (by kernel_rfl) hHeld (fun _ _ _ h => h) (v := ?_) ?_ ?_
            rotate_left 1
            · (intro w hSw; (try dsimp only at hSw); (try simp only [List.getElem_toArray, List.getElem_cons_succ, List.getElem_cons_zero]); go_simp) <;> (with_reducible rfl)
            try simp only [List.getElem_toArray, List.getElem_cons_succ, List.getElem_cons_zero, Act.put, List.setIfInBounds_toArray, List.set_cons_zero, List.set_cons_succ]
            refine tk 3 rfl (by kernel_rfl) hHeld (fun _ _ _ h => h) (v := ?_) ?_ ?_
            rotate_left 1
            · (intro w hSw; (try dsimp only at hSw); (try simp only [List.getElem_toArray, List.getElem_cons_succ, List.getElem_cons_zero]); go_simp) <;> (with_reducible rfl)
            try simp only [List.getElem_toArray, List.getElem_cons_succ, List.getElem_cons_zero, Act.put, List.setIfInBounds_toArray, List.set_cons_zero, List.set_cons_succ]
            refine tk 4 rfl (by kernel_rfl) hHeld (fun _ _ _ h => h) (v := ?_) ?_ ?_
            rotate_left 1
            · (intro w hSw; (try dsimp only at hSw); (try simp only [List.getElem_toArray, List.getElem_cons_succ, List.getElem_cons_zero]); go_simp) <;> (with_reducible rfl)
            try simp only [List.getElem_toArray, List.getElem_cons_succ, List.getElem_cons_zero, Act.put, List.setIfInBounds_toArray, List.set_cons_zero, List.set_cons_succ]
            refine tk 5 rfl (by kernel_rfl) hHeld (fun _ _ _ h => h) (v := ?_) ?_ ?_
            rotate_left 1
            · (intro w hSw; (try dsimp only at hSw); (try simp only [List.getElem_toArray, List.getElem_cons_succ, List.getElem_cons_zero]); go_simp) <;> (with_reducible rfl)
            try simp only [List.getElem_toArray, List.getElem_cons_succ, List.getElem_cons_zero, Act.put, List.setIfInBounds_toArray, List.set_cons_zero, List.set_cons_succ]
            refine tk 6 rfl (by kernel_rfl) hHeld (fun _ _ _ h => h) (v := ?_) ?_ ?_
            rotate_left 1
            · (intro w hSw; (try dsimp only at hSw); (try simp only [List.getElem_toArray, List.getElem_cons_succ, List.getElem_cons_zero]); go_simp) <;> (with_reducible rfl)
            try simp only [List.getElem_toArray, List.getElem_cons_succ, List.getElem_cons_zero, Act.put, List.setIfInBounds_toArray, List.set_cons_zero, List.set_cons_succ]
            refine tk 7 rfl (by kernel_rfl) hHeld (fun _ _ _ h => h) (v := ?_) ?_ ?_
            rotate_left 1
            · (intro w hSw; (try dsimp only at hSw); (try simp only [List.getElem_toArray, List.getElem_cons_succ, List.getElem_cons_zero]); go_simp) <;> (with_reducible rfl)
            try simp only [List.getElem_toArray, List.getElem_cons_succ, List.getElem_cons_zero, Act.put, List.setIfInBounds_toArray, List.set_cons_zero, List.set_cons_succ]
            refine tk 8 rfl (by kernel_rfl) hHeld (fun _ _ _ h => h) (v := ?_) ?_ ?_
            rotate_left 1
            · (intro w hSw; (try dsimp only at hSw); (try simp only [List.getElem_toArray, List.getElem_cons_succ, List.getElem_cons_zero]); go_simp) <;> (with_reducible rfl)
            try simp only [List.getElem_toArray, List.getElem_cons_succ, List.getElem_cons_zero, Act.put, List.setIfInBounds_toArray, List.set_cons_zero, List.set_cons_succ]
            refine tk 9 rfl (by kernel_rfl) hHeld (fun _ _ _ h => h) (v := ?_) ?_ ?_
            rotate_left 1
            · (intro w hSw; (try dsimp only at hSw); (try simp only [List.getElem_toArray, List.getElem_cons_succ, List.getElem_cons_zero]); go_simp) <;> (with_reducible rfl)
            try simp only [List.getElem_toArray, List.getElem_cons_succ, List.getElem_cons_zero, Act.put, List.setIfInBounds_toArray, List.set_cons_zero, List.set_cons_succ]
            refine tk 10 rfl (by kernel_rfl) hHeld (fun _ _ _ h => h) (v := ?_) ?_ ?_
            rotate_left 1
            · (intro w hSw; (try dsimp only at hSw); (try simp only [List.getElem_toArray, List.getElem_cons_succ, List.getElem_cons_zero]); go_simp) <;> (with_reducible rfl)
            try simp only [List.getElem_toArray, List.getElem_cons_succ, List.getElem_cons_zero, Act.put, List.setIfInBounds_toArray, List.set_cons_zero, List.set_cons_succ]
            refine tk 11 rfl (by kernel_rfl) hHeld (fun _ _ _ h => h) (v := ?_) ?_ ?_
            rotate_left 1
            · (intro w hSw; (try dsimp only at hSw); (try simp only [List.getElem_toArray, List.getElem_cons_succ, List.getElem_cons_zero]); go_simp) <;> (with_reducible rfl)
            try simp only [List.getElem_toArray, List.getElem_cons_succ, List.getElem_cons_zero, Act.put, List.setIfInBounds_toArray, List.set_cons_zero, List.set_cons_succ]
            refine tk 12 rfl (by kernel_rfl) hHeld (fun _ _ _ h => h) (v := ?_) ?_ ?_
            rotate_left 1
            · (intro w hSw; (try dsimp only at hSw); (try simp only [List.getElem_toArray, List.getElem_cons_succ, List.getElem_cons_zero]); go_simp) <;> (with_reducible rfl)
            try simp only [List.getElem_toArray, List.getElem_cons_succ, List.getElem_cons_zero, Act.put, List.setIfInBounds_toArray, List.set_cons_zero, List.set_cons_succ]
            refine tk 13 rfl (by kernel_rfl) hHeld (fun _ _ _ h => h) (v := ?_) ?_ ?_
            rotate_left 1
            · (intro w hSw; (try dsimp only at hSw); (try simp only [List.getElem_toArray, List.getElem_cons_succ, List.getElem_cons_zero]); go_simp) <;> (with_reducible rfl)
            try simp only [List.getElem_toArray, List.getElem_cons_succ, List.getElem_cons_zero, Act.put, List.setIfInBounds_toArray, List.set_cons_zero, List.set_cons_succ]
            refine tk 14 rfl (by kernel_rfl) hHeld (fun _ _ _ h => h) (v := ?_) ?_ ?_
            rotate_left 1
            · (intro w hSw; (try dsimp only at hSw); (try simp only [List.getElem_toArray, List.getElem_cons_succ, List.getElem_cons_zero]); go_simp) <;> (with_reducible rfl)
            try simp only [List.getElem_toArray, List.getElem_cons_succ, List.getElem_cons_zero, Act.put, List.setIfInBounds_toArray, List.set_cons_zero, List.set_cons_succ]
            refine tk 15 rfl (by kernel_rfl) hHeld (fun _ _ _ h => h) (v := ?_) ?_ ?_
            rotate_left 1
            · (intro w hSw; (try dsimp only at hSw); (try simp only [List.getElem_toArray, List.getElem_cons_succ, List.getElem_cons_zero]); go_simp) <;> (with_reducible rfl)
            try simp only [List.getElem_toArray, List.getElem_cons_succ, List.getElem_cons_zero, Act.put, List.setIfInBounds_toArray, List.set_cons_zero, List.set_cons_succ]
            refine tk 16 rfl (by kernel_rfl) hHeld (fun _ _ _ h => h) (v := ?_) ?_ ?_
            rotate_left 1
            · (intro w hSw; (try dsimp only at hSw); (try simp only [List.getElem_toArray, List.getElem_cons_succ, List.getElem_cons_zero]); go_simp) <;> (with_reducible rfl)
            try simp only [List.getElem_toArray, List.getElem_cons_succ, List.getElem_cons_zero, Act.put, List.setIfInBounds_toArray, List.set_cons_zero, List.set_cons_succ]
            refine tk 17 rfl (by kernel_rfl) hHeld (fun _ _ _ h => h) (v := ?_) ?_ ?_
            rotate_left 1
            · (intro w hSw; (try dsimp only at hSw); (try simp only [List.getElem_toArray, List.getElem_cons_succ, List.getElem_cons_zero]); go_simp) <;> (with_reducible rfl)
            try simp only [List.getElem_toArray, List.getElem_cons_succ, List.getElem_cons_zero, Act.put, List.setIfInBounds_toArray, List.set_cons_zero, List.set_cons_succ]
            refine tk 18 rfl (by kernel_rfl) hHeld (fun _ _ _ h => h) (v := ?_) ?_ ?_
            rotate_left 1
            · (intro w hSw; (try dsimp only at hSw); (try simp only [List.getElem_toArray, List.getElem_cons_succ, List.getElem_cons_zero]); go_simp) <;> (with_reducible rfl)
            try simp only [List.getElem_toArray, List.getElem_cons_succ, List.getElem_cons_zero, Act.put, List.setIfInBounds_toArray, List.set_cons_zero, List.set_cons_succ]
            refine tk 19 rfl (by kernel_rfl) hHeld (fun _ _ _ h => h) (v := ?_) ?_ ?_
            rotate_left 1
            · (intro w hSw; (try dsimp only at hSw); (try simp only [List.getElem_toArray, List.getElem_cons_succ, List.getElem_cons_zero]); go_simp) <;> (with_reducible rfl)
            try simp only [List.getElem_toArray, List.getElem_cons_succ, List.getElem_cons_zero, Act.put, List.setIfInBounds_toArray, List.set_cons_zero, List.set_cons_succ]
            refine tk 20 rfl (by kernel_rfl) hHeld (fun _ _ _ h => h) (v := ?_) ?_ ?_
            rotate_left 1
            · (intro w hSw; (try dsimp only at hSw); (try simp only [List.getElem_toArray, List.getElem_cons_succ, List.getElem_cons_zero]); go_simp) <;> (with_reducible rfl)
            try simp only [List.getElem_toArray, List.getElem_cons_succ, List.getElem_cons_zero, Act.put, List.setIfInBounds_toArray, List.set_cons_zero, List.set_cons_succ]
            refine tk 21 rfl (by kernel_rfl) hHeld (fun _ _ _ h => h) (v := ?_) ?_ ?_
            rotate_left 1
            · (intro w hSw; (try dsimp only at hSw); (try simp only [List.getElem_toArray, List.getElem_cons_succ, List.getElem_cons_zero]); go_simp) <;> (with_reducible rfl)
            try simp only [List.getElem_toArray, List.getElem_cons_succ, List.getElem_cons_zero, Act.put, List.setIfInBounds_toArray, List.set_cons_zero, List.set_cons_succ]
            refine tk 22 rfl (by kernel_rfl) hHeld (fun _ _ _ h => h) (v := ?_) ?_ ?_
            rotate_left 1
            · (intro w hSw; (try dsimp only at hSw); (try simp only [List.getElem_toArray, List.getElem_cons_succ, List.getElem_cons_zero]); go_simp) <;> (with_reducible rfl)
            try simp only [List.getElem_toArray, List.getElem_cons_succ, List.getElem_cons_zero, Act.put, List.setIfInBounds_toArray, List.set_cons_zero, List.set_cons_succ]
            refine tk 23 rfl (by kernel_rfl) hHeld (fun _ _ _ h => h) (v := ?_) ?_ ?_
            rotate_left 1
            · (intro w hSw; (try dsimp only at hSw); (try simp only [List.getElem_toArray, List.getElem_cons_succ, List.getElem_cons_zero]); go_simp) <;> (with_reducible rfl)
            try simp only [List.getElem_toArray, List.getElem_cons_succ, List.getElem_cons_zero, Act.put, List.setIfInBounds_toArray, List.set_cons_zero, List.set_cons_succ]
            refine tk 24 rfl (by kernel_rfl) hHeld (fun _ _ _ h => h) (v := ?_) ?_ ?_
            rotate_left 1
            · (intro w hSw; (try dsimp only at hSw); (try simp only [List.getElem_toArray, List.getElem_cons_succ, List.getElem_cons_zero]); go_simp) <;> (with_reducible rfl)
            try simp only [List.getElem_toArray, List.getElem_cons_succ, List.getElem_cons_zero, Act.put, List.setIfInBounds_toArray, List.set_cons_zero, List.set_cons_succ]
            refine sk 25 rfl (by kernel_rfl) hHeld (fun _ _ _ h => h) ?_
            try simp only [List.getElem_toArray, List.getElem_cons_succ, List.getElem_cons_zero, Act.put, List.setIfInBounds_toArray, List.set_cons_zero, List.set_cons_succ]
            refine sk 26 rfl (by kernel_rfl) hHeld (fun _ _ _ h => h) ?_
            try simp only [List.getElem_toArray, List.getElem_cons_succ, List.getElem_cons_zero, Act.put, List.setIfInBounds_toArray, List.set_cons_zero, List.set_cons_succ]
            refine sk 27 rfl (by kernel_rfl) hHeld (fun _ _ _ h => h) ?_
            try simp only [List.getElem_toArray, List.getElem_cons_succ, List.getElem_cons_zero, Act.put, List.setIfInBounds_toArray, List.set_cons_zero, List.set_cons_succ]
            refine sk 28 rfl (by kernel_rfl) hHeld (fun _ _ _ h => h) ?_
            try simp only [List.getElem_toArray, List.getElem_cons_succ, List.getElem_cons_zero, Act.put, List.setIfInBounds_toArray, List.set_cons_zero, List.set_cons_succ]
            refine sk 29 rfl (by kernel_rfl) hHeld (fun _ _ _ h => h) ?_
            try simp only [List.getElem_toArray, List.getElem_cons_succ, List.getElem_cons_zero, Act.put, List.setIfInBounds_toArray, List.set_cons_zero, List.set_cons_succ]
            refine sk 30 rfl (by kernel_rfl) hHeld (fun _ _ _ h => h) ?_
            try simp only [List.getElem_toArray, List.getElem_cons_succ, List.getElem_cons_zero, Act.put, List.setIfInBounds_toArray, List.set_cons_zero, List.set_cons_succ]
            refine sk 31 rfl (by kernel_rfl) hHeld (fun _ _ _ h => h) ?_
            try simp only [List.getElem_toArray, List.getElem_cons_succ, List.getElem_cons_zero, Act.put, List.setIfInBounds_toArray, List.set_cons_zero, List.set_cons_succ]
            refine sk 32 rfl (by kernel_rfl) hHeld (fun _ _ _ h => h) ?_
            try simp only [List.getElem_toArray, List.getElem_cons_succ, List.getElem_cons_zero, Act.put, List.setIfInBounds_toArray, List.set_cons_zero, List.set_cons_succ]
            refine sk 33 rfl (by kernel_rfl) hHeld (fun _ _ _ h => h) ?_
            try simp only [List.getElem_toArray, List.getElem_cons_succ, List.getElem_cons_zero, Act.put, List.setIfInBounds_toArray, List.set_cons_zero, List.set_cons_succ]
            refine sk 34 rfl (by kernel_rfl) hHeld (fun _ _ _ h => h) ?_
            try simp only [List.getElem_toArray, List.getElem_cons_succ, List.getElem_cons_zero, Act.put, List.setIfInBounds_toArray, List.set_cons_zero, List.set_cons_succ]
            refine sk 35 rfl (by kernel_rfl) hHeld (fun _ _ _ h => h) ?_
            try simp only [List.getElem_toArray, List.getElem_cons_succ, List.getElem_cons_zero, Act.put, List.setIfInBounds_toArray, List.set_cons_zero, List.set_cons_succ]
            refine tk 36 rfl (by kernel_rfl) hHeld (fun _ _ _ h => h) (v := ?_) ?_ ?_
            rotate_left 1
            · (intro w hSw; (try dsimp only at hSw); (try simp only [List.getElem_toArray, List.getElem_cons_succ, List.getElem_cons_zero]); go_simp) <;> (with_reducible rfl)
            try simp only [List.getElem_toArray, List.getElem_cons_succ, List.getElem_cons_zero, Act.put, List.setIfInBounds_toArray, List.set_cons_zero, List.set_cons_succ]
            refine tk 37 rfl (by kernel_rfl) hHeld (fun _ _ _ h => h) (v := ?_) ?_ ?_
            rotate_left 1
            · (intro w hSw; (try dsimp only at hSw); (try simp only [List.getElem_toArray, List.getElem_cons_succ, List.getElem_cons_zero]); go_simp) <;> (with_reducible rfl)
            try simp only [List.getElem_toArray, List.getElem_cons_succ, List.getElem_cons_zero, Act.put, List.setIfInBounds_toArray, List.set_cons_zero, List.set_cons_succ]
            refine sk 38 rfl (by kernel_rfl) hHeld (fun _ _ _ h => h) ?_
            try simp only [List.getElem_toArray, List.getElem_cons_succ, List.getElem_cons_zero, Act.put, List.setIfInBounds_toArray, List.set_cons_zero, List.set_cons_succ]
            refine sk 39 rfl (by kernel_rfl) hHeld (fun _ _ _ h => h) ?_
            try simp only [List.getElem_toArray, List.getElem_cons_succ, List.getElem_cons_zero, Act.put, List.setIfInBounds_toArray, List.set_cons_zero, List.set_cons_succ]
            refine sk 40 rfl (by kernel_rfl) hHeld (fun _ _ _ h => h) ?_
            try simp only [List.getElem_toArray, List.getElem_cons_succ, List.getElem_cons_zero, Act.put, List.setIfInBounds_toArray, List.set_cons_zero, List.set_cons_succ]
            refine sk 41 rfl (by kernel_rfl) hHeld (fun _ _ _ h => h) ?_
            try simp only [List.getElem_toArray, List.getElem_cons_succ, List.getElem_cons_zero, Act.put, List.setIfInBounds_toArray, List.set_cons_zero, List.set_cons_succ]
            refine sk 42 rfl (by kernel_rfl) hHeld (fun _ _ _ h => h) ?_
            try simp only [List.getElem_toArray, List.getElem_cons_succ, List.getElem_cons_zero, Act.put, List.setIfInBounds_toArray, List.set_cons_zero, List.set_cons_succ]
            refine sk 43 rfl (by kernel_rfl) hHeld (fun _ _ _ h => h) ?_
            try simp only [List.getElem_toArray, List.getElem_cons_succ, List.getElem_cons_zero, Act.put, List.setIfInBounds_toArray, List.set_cons_zero, List.set_cons_succ]
            refine sk 44 rfl (by kernel_rfl) hHeld (fun _ _ _ h => h) ?_
            try simp only [List.getElem_toArray, List.getElem_cons_succ, List.getElem_cons_zero, Act.put, List.setIfInBounds_toArray, List.set_cons_zero, List.set_cons_succ]
            refine sk 45 rfl (by kernel_rfl) hHeld (fun _ _ _ h => h) ?_
            try simp only [List.getElem_toArray, List.getElem_cons_succ, List.getElem_cons_zero, Act.put, List.setIfInBounds_toArray, List.set_cons_zero, List.set_cons_succ]
            refine sk 46 rfl (by kernel_rfl) hHeld (fun _ _ _ h => h) ?_
            try simp only [List.getElem_toArray, List.getElem_cons_succ, List.getElem_cons_zero, Act.put, List.setIfInBounds_toArray, List.set_cons_zero, List.set_cons_succ]
            refine sk 47 rfl (by kernel_rfl) hHeld (fun _ _ _ h => h) ?_
            try simp only [List.getElem_toArray, List.getElem_cons_succ, List.getElem_cons_zero, Act.put, List.setIfInBounds_toArray, List.set_cons_zero, List.set_cons_succ]
            refine sk 48 rfl (by kernel_rfl) hHeld (fun _ _ _ h => h) ?_
            try simp only [List.getElem_toArray, List.getElem_cons_succ, List.getElem_cons_zero, Act.put, List.setIfInBounds_toArray, List.set_cons_zero, List.set_cons_succ]
            refine tk 49 rfl (by kernel_rfl) hHeld (fun _ _ _ h => h) (v := ?_) ?_ ?_
            rotate_left 1
            · (intro w hSw; (try dsimp only at hSw); (try simp only [List.getElem_toArray, List.getElem_cons_succ, List.getElem_cons_zero]); go_simp) <;> (with_reducible rfl)
            try simp only [List.getElem_toArray, List.getElem_cons_succ, List.getElem_cons_zero, Act.put, List.setIfInBounds_toArray, List.set_cons_zero, List.set_cons_succ]
            refine tk 50 rfl (by kernel_rfl) hHeld (fun _ _ _ h => h) (v := ?_) ?_ ?_
            rotate_left 1
            · (intro w hSw; (try dsimp only at hSw); (try simp only [List.getElem_toArray, List.getElem_cons_succ, List.getElem_cons_zero]); go_simp) <;> (with_reducible rfl)
            try simp only [List.getElem_toArray, List.getElem_cons_succ, List.getElem_cons_zero, Act.put, List.setIfInBounds_toArray, List.set_cons_zero, List.set_cons_succ]
            refine sk 51 rfl (by kernel_rfl) hHeld (fun _ _ _ h => h) ?_
            try simp only [List.getElem_toArray, List.getElem_cons_succ, List.getElem_cons_zero, Act.put, List.setIfInBounds_toArray, List.set_cons_zero, List.set_cons_succ]
            refine sk 52 rfl (by kernel_rfl) hHeld (fun _ _ _ h => h) ?_
            try simp only [List.getElem_toArray, List.getElem_cons_succ, List.getElem_cons_zero, Act.put, List.setIfInBounds_toArray, List.set_cons_zero, List.set_cons_succ]
            refine sk 53 rfl (by kernel_rfl) hHeld (fun _ _ _ h => h) ?_
            try simp only [List.getElem_toArray, List.getElem_cons_succ, List.getElem_cons_zero, Act.put, List.setIfInBounds_toArray, List.set_cons_zero, List.set_cons_succ]
            refine sk 54 rfl (by kernel_rfl) hHeld (fun _ _ _ h => h) ?_
            try simp only [List.getElem_toArray, List.getElem_cons_succ, List.getElem_cons_zero, Act.put, List.setIfInBounds_toArray, List.set_cons_zero, List.set_cons_succ]
            refine sk 55 rfl (by kernel_rfl) hHeld (fun _ _ _ h => h) ?_
            try simp only [List.getElem_toArray, List.getElem_cons_succ, List.getElem_cons_zero, Act.put, List.setIfInBounds_toArray, List.set_cons_zero, List.set_cons_succ]
            refine sk 56 rfl (by kernel_rfl) hHeld (fun _ _ _ h => h) ?_
            try simp only [List.getElem_toArray, List.getElem_cons_succ, List.getElem_cons_zero, Act.put, List.setIfInBounds_toArray, List.set_cons_zero, List.set_cons_succ]
            refine sk 57 rfl (by kernel_rfl) hHeld (fun _ _ _ h => h) ?_
            try simp only [List.getElem_toArray, List.getElem_cons_succ, List.getElem_cons_zero, Act.put, List.setIfInBounds_toArray, List.set_cons_zero, List.set_cons_succ]
            refine sk 58 rfl (by kernel_rfl) hHeld (fun _ _ _ h => h) ?_
            try simp only [List.getElem_toArray, List.getElem_cons_succ, List.getElem_cons_zero, Act.put, List.setIfInBounds_toArray, List.set_cons_zero, List.set_cons_succ]
            refine sk 59 rfl (by kernel_rfl) hHeld (fun _ _ _ h => h) ?_
            try simp only [List.getElem_toArray, List.getElem_cons_succ, List.getElem_cons_zero, Act.put, List.setIfInBounds_toArray, List.set_cons_zero, List.set_cons_succ]
            refine sk 60 rfl (by kernel_rfl) hHeld (fun _ _ _ h => h) ?_
            try simp only [List.getElem_toArray, List.getElem_cons_succ, List.getElem_cons_zero, Act.put, List.setIfInBounds_toArray, List.set_cons_zero, List.set_cons_succ]
            refine sk 61 rfl (by kernel_rfl) hHeld (fun _ _ _ h => h) ?_
            try simp only [List.getElem_toArray, List.getElem_cons_succ, List.getElem_cons_zero, Act.put, List.setIfInBounds_toArray, List.set_cons_zero, List.set_cons_succ]
            refine tk 62 rfl (by kernel_rfl) hHeld (fun _ _ _ h => h) (v := ?_) ?_ ?_
            rotate_left 1
            · (intro w hSw; (try dsimp only at hSw); (try simp only [List.getElem_toArray, List.getElem_cons_succ, List.getElem_cons_zero]); go_simp) <;> (with_reducible rfl)
            try simp only [List.getElem_toArray, List.getElem_cons_succ, List.getElem_cons_zero, Act.put, List.setIfInBounds_toArray, List.set_cons_zero, List.set_cons_succ]
            refine tk 63 rfl (by kernel_rfl) hHeld (fun _ _ _ h => h) (v := ?_) ?_ ?_
            rotate_left 1
            · (intro w hSw; (try dsimp only at hSw); (try simp only [List.getElem_toArray, List.getElem_cons_succ, List.getElem_cons_zero]); go_simp) <;> (with_reducible rfl)
            try simp only [List.getElem_toArray, List.getElem_cons_succ, List.getElem_cons_zero, Act.put, List.setIfInBounds_toArray, List.set_cons_zero, List.set_cons_succ]
            refine sk 64 rfl (by kernel_rfl) hHeld (fun _ _ _ h => h) ?_
            try simp only [List.getElem_toArray, List.getElem_cons_succ, List.getElem_cons_zero, Act.put, List.setIfInBounds_toArray, List.set_cons_zero, List.set_cons_succ]
            refine sk 65 rfl (by kernel_rfl) hHeld (fun _ _ _ h => h) ?_
            try simp only [List.getElem_toArray, List.getElem_cons_succ, List.getElem_cons_zero, Act.put, List.setIfInBounds_toArray, List.set_cons_zero, List.set_cons_succ]
            refine sk 66 rfl (by kernel_rfl) hHeld (fun _ _ _ h => h) ?_
            try simp only [List.getElem_toArray, List.getElem_cons_succ, List.getElem_cons_zero, Act.put, List.setIfInBounds_toArray, List.set_cons_zero, List.set_cons_succ]
            refine sk 67 rfl (by kernel_rfl) hHeld (fun _ _ _ h => h) ?_
            try simp only [List.getElem_toArray, List.getElem_cons_succ, List.getElem_cons_zero, Act.put, List.setIfInBounds_toArray, List.set_cons_zero, List.set_cons_succ]
            refine sk 68 rfl (by kernel_rfl) hHeld (fun _ _ _ h => h) ?_
            try simp only [List.getElem_toArray, List.getElem_cons_succ, List.getElem_cons_zero, Act.put, List.setIfInBounds_toArray, List.set_cons_zero, List.set_cons_succ]
            refine sk 69 rfl (by kernel_rfl) hHeld (fun _ _ _ h => h) ?_
            try simp only [List.getElem_toArray, List.getElem_cons_succ, List.getElem_cons_zero, Act.put, List.setIfInBounds_toArray, List.set_cons_zero, List.set_cons_succ]
            refine sk 70 rfl (by kernel_rfl) hHeld (fun _ _ _ h => h) ?_
            try simp only [List.getElem_toArray, List.getElem_cons_succ, List.getElem_cons_zero, Act.put, List.setIfInBounds_toArray, List.set_cons_zero, List.set_cons_succ]
            refine sk 71 rfl (by kernel_rfl) hHeld (fun _ _ _ h => h) ?_
            try simp only [List.getElem_toArray, List.getElem_cons_succ, List.getElem_cons_zero, Act.put, List.setIfInBounds_toArray, List.set_cons_zero, List.set_cons_succ]
            refine sk 72 rfl (by kernel_rfl) hHeld (fun _ _ _ h => h) ?_
            try simp only [List.getElem_toArray, List.getElem_cons_succ, List.getElem_cons_zero, Act.put, List.setIfInBounds_toArray, List.set_cons_zero, List.set_cons_succ]
            refine sk 73 rfl (by kernel_rfl) hHeld (fun _ _ _ h => h) ?_
            try simp only [List.getElem_toArray, List.getElem_cons_succ, List.getElem_cons_zero, Act.put, List.setIfInBounds_toArray, List.set_cons_zero, List.set_cons_succ]
            refine sk 74 rfl (by kernel_rfl) hHeld (fun _ _ _ h => h) ?_
            try simp only [List.getElem_toArray, List.getElem_cons_succ, List.getElem_cons_zero, Act.put, List.setIfInBounds_toArray, List.set_cons_zero, List.set_cons_succ]
            refine sk 75 rfl (by kernel_rfl) hHeld (fun _ _ _ h => h) ?_
            try simp only [List.getElem_toArray, List.getElem_cons_succ, List.getElem_cons_zero, Act.put, List.setIfInBounds_toArray, List.set_cons_zero, List.set_cons_succ]
            refine tk 76 rfl (by kernel_rfl) hHeld (fun _ _ _ h => h) (v := ?_) ?_ ?_
            rotate_left 1
            · (intro w hSw; (try dsimp only at hSw); (try simp only [List.getElem_toArray, List.getElem_cons_succ, List.getElem_cons_zero]); go_simp) <;> (with_reducible rfl)
            try simp only [List.getElem_toArray, List.getElem_cons_succ, List.getElem_cons_zero, Act.put, List.setIfInBounds_toArray, List.set_cons_zero, List.set_cons_succ]
            refine wpAnyH_done (by kernel_rfl) ?_ _
            obtain ⟨n', hn'⟩ := hHeld.2.2.2.2.2.2.2.2.2.2.2.2
            go_wp2_with fail
            go_ret
            exact ⟨ret_bool hne.out.symm, n', hn'⟩
        subst e1
        by_cases e2 : p2 = r2
        case neg =>
          ·
            have hb : (p2 != r2) = true := bne_iff_ne.2 e2
            have hne : Hid (decide (xs.map (·.c) = ys.map (·.c)) = false) := Lib.hid (decide_eq_false (NE.out (fun h => e2 (by injection h))))
            clear e2 NE PV GL2
            go_wp2_with fail
            try simp only [List.append_eq, List.cons_append, List.nil_append]
            refine wp_region_held_drew (S := fun w' => w'.cell? ⟨b1, o1 + k * 6, none⟩ = some (.int .i64 p0) ∧ w'.cell? ⟨b1, o1 + k * 6 + 1, none⟩ = some (.int .i64 p1) ∧ w'.cell? ⟨b1, o1 + k * 6 + 2, none⟩ = some (.int .i64 p2) ∧ w'.cell? ⟨b1, o1 + k * 6 + 3, none⟩ = some (.int .i64 p3) ∧ w'.cell? ⟨b1, o1 + k * 6 + 4, none⟩ = some (.int .i64 p4) ∧ w'.cell? ⟨b1, o1 + k * 6 + 5, none⟩ = some (.slice A3 n1 c3) ∧ w'.cell? ⟨b2, o2 + k * 6, none⟩ = some (.int .i64 p0) ∧ w'.cell? ⟨b2, o2 + k * 6 + 1, none⟩ = some (.int .i64 p1) ∧ w'.cell? ⟨b2, o2 + k * 6 + 2, none⟩ = some (.int .i64 r2) ∧ w'.cell? ⟨b2, o2 + k * 6 + 3, none⟩ = some (.int .i64 r3) ∧ w'.cell? ⟨b2, o2 + k * 6 + 4, none⟩ = some (.int .i64 r4) ∧ w'.cell? ⟨b2, o2 + k * 6 + 5, none⟩ = some (.slice A4 n2 c4) ∧ ∃ n, w' = w.drewN n) (by kernel_rfl) ⟨x0, x1, x2, x3, x4, x5, y0, y1, y2, y3, y4, y5, n + 1, rfl⟩ (fun hHeld => ?_)
            refine tk 0 rfl (by kernel_rfl) hHeld (fun _ _ _ h => h) (v := ?_) ?_ ?_
            rotate_left 1
            · (intro w hSw; (try dsimp only at hSw); (try simp only [List.getElem_toArray, List.getElem_cons_succ, List.getElem_cons_zero]); go_simp) <;> (with_reducible rfl)
            try simp only [List.getElem_toArray, List.getElem_cons_succ, List.getElem_cons_zero, Act.put, List.setIfInBounds_toArray, List.set_cons_zero, List.set_cons_succ]
            refine tk 1 rfl (by kernel_rfl) hHeld (fun _ _ _ h => h) (v := ?_) ?_ ?_
            rotate_left 1
            · (intro w hSw; (try dsimp only at hSw); (try simp only [List.getElem_toArray, List.getElem_cons_succ, List.getElem_cons_zero]); go_simp) <;> (with_reducible rfl)
            try simp only [List.getElem_toArray, List.getElem_cons_succ, List.getElem_cons_zero, Act.put, List.setIfInBounds_toArray, List.set_cons_zero, List.set_cons_succ]
            refine tk 2 rfl (by kernel_rfl) hHeld (fun _ _ _ h => h) (v := ?_) ?_ ?_
            rotate_left 1
            · (intro w hSw; (try dsimp only at hSw); (try simp only [List.getElem_toArray, List.getElem_cons_succ, List.getElem_cons_zero]); go_simp) <;> (with_reducible rfl)
            try simp only [List.getElem_toArray, List.getElem_cons_succ, List.getElem_cons_zero, Act.put, List.setIfInBounds_toArray, List.set_cons_zero, List.set_cons_succ]
            refine tk 3 rfl (by kernel_rfl) hHeld (fun _ _ _ h => h) (v := ?_) ?_ ?_
            rotate_left 1
            · (intro w hSw; (try dsimp only at hSw); (try simp only [List.getElem_toArray, List.getElem_cons_succ, List.getElem_cons_zero]); go_simp) <;> (with_reducible rfl)
            try simp only [List.getElem_toArray, List.getElem_cons_succ, List.getElem_cons_zero, Act.put, List.setIfInBounds_toArray, List.set_cons_zero, List.set_cons_succ]
            refine tk 4 rfl (by kernel_rfl) hHeld (fun _ _ _ h => h) (v := ?_) ?_ ?_
            rotate_left 1
            · (intro w hSw; (try dsimp only at hSw); (try simp only [List.getElem_toArray, List.getElem_cons_succ, List.getElem_cons_zero]); go_simp) <;> (with_reducible rfl)
            try simp only [List.getElem_toArray, List.getElem_cons_succ, List.getElem_cons_zero, Act.put, List.setIfInBounds_toArray, List.set_cons_zero, List.set_cons_succ]
            refine tk 5 rfl (by kernel_rfl) hHeld (fun _ _ _ h => h) (v := ?_) ?_ ?_
            rotate_left 1
            · (intro w hSw; (try dsimp only at hSw); (try simp only [List.getElem_toArray, List.getElem_cons_succ, List.getElem_cons_zero]); go_simp) <;> (with_reducible rfl)
            try simp only [List.getElem_toArray, List.getElem_cons_succ, List.getElem_cons_zero, Act.put, List.setIfInBounds_toArray, List.set_cons_zero, List.set_cons_succ]
            refine tk 6 rfl (by kernel_rfl) hHeld (fun _ _ _ h => h) (v := ?_) ?_ ?_
            rotate_left 1
            · (intro w hSw; (try dsimp only at hSw); (try simp only [List.getElem_toArray, List.getElem_cons_succ, List.getElem_cons_zero]); go_simp) <;> (with_reducible rfl)
            try simp only [List.getElem_toArray, List.getElem_cons_succ, List.getElem_cons_zero, Act.put, List.setIfInBounds_toArray, List.set_cons_zero, List.set_cons_succ]
            refine tk 7 rfl (by kernel_rfl) hHeld (fun _ _ _ h => h) (v := ?_) ?_ ?_
            rotate_left 1
            · (intro w hSw; (try dsimp only at hSw); (try simp only [List.getElem_toArray, List.getElem_cons_succ, List.getElem_cons_zero]); go_simp) <;> (with_reducible rfl)
            try simp only [List.getElem_toArray, List.getElem_cons_succ, List.getElem_cons_zero, Act.put, List.setIfInBounds_toArray, List.set_cons_zero, List.set_cons_succ]
            refine tk 8 rfl (by kernel_rfl) hHeld (fun _ _ _ h => h) (v := ?_) ?_ ?_
            rotate_left 1
            · (intro w hSw; (try dsimp only at hSw); (try simp only [List.getElem_toArray, List.getElem_cons_succ, List.getElem_cons_zero]); go_simp) <;> (with_reducible rfl)
            try simp only [List.getElem_toArray, List.getElem_cons_succ, List.getElem_cons_zero, Act.put, List.setIfInBounds_toArray, List.set_cons_zero, List.set_cons_succ]
            refine tk 9 rfl (by kernel_rfl) hHeld (fun _ _ _ h => h) (v := ?_) ?_ ?_
            rotate_left 1
            · (intro w hSw; (try dsimp only at hSw); (try simp only [List.getElem_toArray, List.getElem_cons_succ, List.getElem_cons_zero]); go_simp) <;> (with_reducible rfl)
            try simp only [List.getElem_toArray, List.getElem_cons_succ, List.getElem_cons_zero, Act.put, List.setIfInBounds_toArray, List.set_cons_zero, List.set_cons_succ]
            refine tk 10 rfl (by kernel_rfl) hHeld (fun _ _ _ h => h) (v := ?_) ?_ ?_
            rotate_left 1
            · (intro w hSw; (try dsimp only at hSw); (try simp only [List.getElem_toArray, List.getElem_cons_succ, List.getElem_cons_zero]); go_simp) <;> (with_reducible rfl)
            try simp only [List.getElem_toArray, List.getElem_cons_succ, List.getElem_cons_zero, Act.put, List.setIfInBounds_toArray, List.set_cons_zero, List.set_cons_succ]
            refine tk 11 rfl (by kernel_rfl) hHeld (fun _ _ _ h => h) (v := ?_) ?_ ?_
            rotate_left 1
            · (intro w hSw; (try dsimp only at hSw); (try simp only [List.getElem_toArray, List.getElem_cons_succ, List.getElem_cons_zero]); go_simp) <;> (with_reducible rfl)
            try simp only [List.getElem_toArray, List.getElem_cons_succ, List.getElem_cons_zero, Act.put, List.setIfInBounds_toArray, List.set_cons_zero, List.set_cons_succ]
            refine tk 12 rfl (by kernel_rfl) hHeld (fun _ _ _ h => h) (v := ?_) ?_ ?_
            rotate_left 1
            · (intro w hSw; (try dsimp only at hSw); (try simp only [List.getElem_toArray, List.getElem_cons_succ, List.getElem_cons_zero]); go_simp) <;> (with_reducible rfl)
            try simp only [List.getElem_toArray, List.getElem_cons_succ, List.getElem_cons_zero, Act.put, List.setIfInBounds_toArray, List.set_cons_zero, List.set_cons_succ]
            refine tk 13 rfl (by kernel_rfl) hHeld (fun _ _ _ h => h) (v := ?_) ?_ ?_
            rotate_left 1
            · (intro w hSw; (try dsimp only at hSw); (try simp only [List.getElem_toArray, List.getElem_cons_succ, List.getElem_cons_zero]); go_simp) <;> (with_reducible rfl)
            try simp only [List.getElem_toArray, List.getElem_cons_succ, List.getElem_cons_zero, Act.put, List.setIfInBounds_toArray, List.set_cons_zero, List.set_cons_succ]
            refine tk 14 rfl (by kernel_rfl) hHeld (fun _ _ _ h => h) (v := ?_) ?_ ?_
            rotate_left 1
            · (intro w hSw; (try dsimp only at hSw); (try simp only [List.getElem_toArray, List.getElem_cons_succ, List.getElem_cons_zero]); go_simp) <;> (with_reducible rfl)
            try simp only [List.getElem_toArray, List.getElem_cons_succ, List.getElem_cons_zero, Act.put, List.setIfInBounds_toArray, List.set_cons_zero, List.set_cons_succ]
            refine tk 15 rfl (by kernel_rfl) hHeld (fun _ _ _ h => h) (v := ?_) ?_ ?_
            rotate_left 1
            · (intro w hSw; (try dsimp only at hSw); (try simp only [List.getElem_toArray, List.getElem_cons_succ, List.getElem_cons_zero]); go_simp) <;> (with_reducible rfl)
            try simp only [List.getElem_toArray, List.getElem_cons_succ, List.getElem_cons_zero, Act.put, List.setIfInBounds_toArray, List.set_cons_zero, List.set_cons_succ]
            refine tk 16 rfl (by kernel_rfl) hHeld (fun _ _ _ h => h) (v := ?_) ?_ ?_
            rotate_left 1
            · (intro w hSw; (try dsimp only at hSw); (try simp only [List.getElem_toArray, List.getElem_cons_succ, List.getElem_cons_zero]); go_simp) <;> (with_reducible rfl)
            try simp only [List.getElem_toArray, List.getElem_cons_succ, List.getElem_cons_zero, Act.put, List.setIfInBounds_toArray, List.set_cons_zero, List.set_cons_succ]
            refine tk 17 rfl (by kernel_rfl) hHeld (fun _ _ _ h => h) (v := ?_) ?_ ?_
            rotate_left 1
            · (intro w hSw; (try dsimp only at hSw); (try simp only [List.getElem_toArray, List.getElem_cons_succ, List.getElem_cons_zero]); go_simp) <;> (with_reducible rfl)
            try simp only [List.getElem_toArray, List.getElem_cons_succ, List.getElem_cons_zero, Act.put, List.setIfInBounds_toArray, List.set_cons_zero, List.set_cons_succ]
            refine tk 18 rfl (by kernel_rfl) hHeld (fun _ _ _ h => h) (v := ?_) ?_ ?_
            rotate_left 1
            · (intro w hSw; (try dsimp only at hSw); (try simp only [List.getElem_toArray, List.getElem_cons_succ, List.getElem_cons_zero]); go_simp) <;> (with_reducible rfl)
            try simp only [List.getElem_toArray, List.getElem_cons_succ, List.getElem_cons_zero, Act.put, List.setIfInBounds_toArray, List.set_cons_zero, List.set_cons_succ]
            refine tk 19 rfl (by kernel_rfl) hHeld (fun _ _ _ h => h) (v := ?_) ?_ ?_
            rotate_left 1
            · (intro w hSw; (try dsimp only at hSw); (try simp only [List.getElem_toArray, List.getElem_cons_succ, List.getElem_cons_zero]); go_simp) <;> (with_reducible rfl)
            try simp only [List.getElem_toArray, List.getElem_cons_succ, List.getElem_cons_zero, Act.put, List.setIfInBounds_toArray, List.set_cons_zero, List.set_cons_succ]
            refine tk 20 rfl (by kernel_rfl) hHeld (fun _ _ _ h => h) (v := ?_) ?_ ?_
            rotate_left 1
            · (intro w hSw; (try dsimp only at hSw); (try simp only [List.getElem_toArray, List.getElem_cons_succ, List.getElem_cons_zero]); go_simp) <;> (with_reducible rfl)
            try simp only [List.getElem_toArray, List.getElem_cons_succ, List.getElem_cons_zero, Act.put, List.setIfInBounds_toArray, List.set_cons_zero, List.set_cons_succ]
            refine tk 21 rfl (by kernel_rfl) hHeld (fun _ _ _ h => h) (v := ?_) ?_ ?_
            rotate_left 1
            · (intro w hSw; (try dsimp only at hSw); (try simp only [List.getElem_toArray, List.getElem_cons_succ, List.getElem_cons_zero]); go_simp) <;> (with_reducible rfl)
            try simp only [List.getElem_toArray, List.getElem_cons_succ, List.getElem_cons_zero, Act.put, List.setIfInBounds_toArray, List.set_cons_zero, List.set_cons_succ]
            refine tk 22 rfl (by kernel_rfl) hHeld (fun _ _ _ h => h) (v := ?_) ?_ ?_
            rotate_left 1
            · (intro w hSw; (try dsimp only at hSw); (try simp only [List.getElem_toArray, List.getElem_cons_succ, List.getElem_cons_zero]); go_simp) <;> (with_reducible rfl)
            try simp only [List.getElem_toArray, List.getElem_cons_succ, List.getElem_cons_zero, Act.put, List.setIfInBounds_toArray, List.set_cons_zero, List.set_cons_succ]
            refine tk 23 rfl (by kernel_rfl) hHeld (fun _ _ _ h => h) (v := ?_) ?_ ?_
            rotate_left 1
            · (intro w hSw; (try dsimp only at hSw); (try simp only [List.getElem_toArray, List.getElem_cons_succ, List.getElem_cons_zero]); go_simp) <;> (with_reducible rfl)
            try simp only [List.getElem_toArray, List.getElem_cons_succ, List.getElem_cons_zero, Act.put, List.setIfInBounds_toArray, List.set_cons_zero, List.set_cons_succ]
            refine tk 24 rfl (by kernel_rfl) hHeld (fun _ _ _ h => h) (v := ?_) ?_ ?_
            rotate_left 1
            · (intro w hSw; (try dsimp only at hSw); (try simp only [List.getElem_toArray, List.getElem_cons_succ, List.getElem_cons_zero]); go_simp) <;> (with_reducible rfl)
            try simp only [List.getElem_toArray, List.getElem_cons_succ, List.getElem_cons_zero, Act.put, List.setIfInBounds_toArray, List.set_cons_zero, List.set_cons_succ]
            refine tk 25 rfl (by kernel_rfl) hHeld (fun _ _ _ h => h) (v := ?_) ?_ ?_
            rotate_left 1
            · (intro w hSw; (try dsimp only at hSw); (try simp only [List.getElem_toArray, List.getElem_cons_succ, List.getElem_cons_zero]); go_simp) <;> (with_reducible rfl)
            try simp only [List.getElem_toArray, List.getElem_cons_succ, List.getElem_cons_zero, Act.put, List.setIfInBounds_toArray, List.set_cons_zero, List.set_cons_succ]
            refine tk 26 rfl (by kernel_rfl) hHeld (fun _ _ _ h => h) (v := ?_) ?_ ?_
            rotate_left 1
            · (intro w hSw; (try dsimp only at hSw); (try simp only [List.getElem_toArray, List.getElem_cons_succ, List.getElem_cons_zero]); go_simp) <;> (with_reducible rfl)
            try simp only [List.getElem_toArray, List.getElem_cons_succ, List.getElem_cons_zero, Act.put, List.setIfInBounds_toArray, List.set_cons_zero, List.set_cons_succ]
            refine tk 27 rfl (by kernel_rfl) hHeld (fun _ _ _ h => h) (v := ?_) ?_ ?_
            rotate_left 1
            · (intro w hSw; (try dsimp only at hSw); (try simp only [List.getElem_toArray, List.getElem_cons_succ, List.getElem_cons_zero]); go_simp) <;> (with_reducible rfl)
            try simp only [List.getElem_toArray, List.getElem_cons_succ, List.getElem_cons_zero, Act.put, List.setIfInBounds_toArray, List.set_cons_zero, List.set_cons_succ]
            refine tk 28 rfl (by kernel_rfl) hHeld (fun _ _ _ h => h) (v := ?_) ?_ ?_
            rotate_left 1
            · (intro w hSw; (try dsimp only at hSw); (try simp only [List.getElem_toArray, List.getElem_cons_succ, List.getElem_cons_zero]); go_simp) <;> (with_reducible rfl)
            try simp only [List.getElem_toArray, List.getElem_cons_succ, List.getElem_cons_zero, Act.put, List.setIfInBounds_toArray, List.set_cons_zero, List.set_cons_succ]
            refine tk 29 rfl (by kernel_rfl) hHeld (fun _ _ _ h => h) (v := ?_) ?_ ?_
            rotate_left 1
            · (intro w hSw; (try dsimp only at hSw); (try simp only [List.getElem_toArray, List.getElem_cons_succ, List.getElem_cons_zero]); go_simp) <;> (with_reducible rfl)
            try simp only [List.getElem_toArray, List.getElem_cons_succ, List.getElem_cons_zero, Act.put, List.setIfInBounds_toArray, List.set_cons_zero, List.set_cons_succ]
            refine tk 30 rfl (by kernel_rfl) hHeld (fun _ _ _ h => h) (v := ?_) ?_ ?_
            rotate_left 1
            · (intro w hSw; (try dsimp only at hSw); (try simp only [List.getElem_toArray, List.getElem_cons_succ, List.getElem_cons_zero]); go_simp) <;> (with_reducible rfl)
            try simp only [List.getElem_toArray, List.getElem_cons_succ, List.getElem_cons_zero, Act.put, List.setIfInBounds_toArray, List.set_cons_zero, List.set_cons_succ]
            refine tk 31 rfl (by kernel_rfl) hHeld (fun _ _ _ h => h) (v := ?_) ?_ ?_
            rotate_left 1
            · (intro w hSw; (try dsimp only at hSw); (try simp only [List.getElem_toArray, List.getElem_cons_succ, List.getElem_cons_zero]); go_simp) <;> (with_reducible rfl)
            try simp only [List.getElem_toArray, List.getElem_cons_succ, List.getElem_cons_zero, Act.put, List.setIfInBounds_toArray, List.set_cons_zero, List.set_cons_succ]
            refine tk 32 rfl (by kernel_rfl) hHeld (fun _ _ _ h => h) (v := ?_) ?_ ?_
            rotate_left 1
            · (intro w hSw; (try dsimp only at hSw); (try simp only [List.getElem_toArray, List.getElem_cons_succ, List.getElem_cons_zero]); go_simp) <;> (with_reducible rfl)
            try simp only [List.getElem_toArray, List.getElem_cons_succ, List.getElem_cons_zero, Act.put, List.setIfInBounds_toArray, List.set_cons_zero, List.set_cons_succ]
            refine tk 33 rfl (by kernel_rfl) hHeld (fun _ _ _ h => h) (v := ?_) ?_ ?_
            rotate_left 1
            · (intro w hSw; (try dsimp only at hSw); (try simp only [List.getElem_toArray, List.getElem_cons_succ, List.getElem_cons_zero]); go_simp) <;> (with_reducible rfl)
            try simp only [List.getElem_toArray, List.getElem_cons_succ, List.getElem_cons_zero, Act.put, List.setIfInBounds_toArray, List.set_cons_zero, List.set_cons_succ]
            refine tk 34 rfl (by kernel_rfl) hHeld (fun _ _ _ h => h) (v := ?_) ?_ ?_
            rotate_left 1
            · (intro w hSw; (try dsimp only at hSw); (try simp only [List.getElem_toArray, List.getElem_cons_succ, List.getElem_cons_zero]); go_simp) <;> (with_reducible rfl)
            try simp only [List.getElem_toArray, List.getElem_cons_succ, List.getElem_cons_zero, Act.put, List.setIfInBounds_toArray, List.set_cons_zero, List.set_cons_succ]
            refine tk 35 rfl (by kernel_rfl) hHeld (fun _ _ _ h => h) (v := ?_) ?_ ?_
            rotate_left 1
            · (intro w hSw; (try dsimp only at hSw); (try simp only [List.getElem_toArray, List.getElem_cons_succ, List.getElem_cons_zero]); go_simp) <;> (with_reducible rfl)
            try simp only [List.getElem_toArray, List.getElem_cons_succ, List.getElem_cons_zero, Act.put, List.setIfInBounds_toArray, List.set_cons_zero, List.set_cons_succ]
            refine tk 36 rfl (by kernel_rfl) hHeld (fun _ _ _ h => h) (v := ?_) ?_ ?_
            rotate_left 1
            · (intro w hSw; (try dsimp only at hSw); (try simp only [List.getElem_toArray, List.getElem_cons_succ, List.getElem_cons_zero]); go_simp) <;> (with_reducible rfl)
            try simp only [List.getElem_toArray, List.getElem_cons_succ, List.getElem_cons_zero, Act.put, List.setIfInBounds_toArray, List.set_cons_zero, List.set_cons_succ]
            refine tk 37 rfl (by kernel_rfl) hHeld (fun _ _ _ h => h) (v := ?_) ?_ ?_
            rotate_left 1
            · (intro w hSw; (try dsimp only at hSw); (try simp only [List.getElem_toArray, List.getElem_cons_succ, List.getElem_cons_zero]); go_simp) <;> (with_reducible rfl)
            try simp only [List.getElem_toArray, List.getElem_cons_succ, List.getElem_cons_zero, Act.put, List.setIfInBounds_toArray, List.set_cons_zero, List.set_cons_succ]
            refine sk 38 rfl (by kernel_rfl) hHeld (fun _ _ _ h => h) ?_
            try simp only [List.getElem_toArray, List.getElem_cons_succ, List.getElem_cons_zero, Act.put, List.setIfInBounds_toArray, List.set_cons_zero, List.set_cons_succ]
            refine sk 39 rfl (by kernel_rfl) hHeld (fun _ _ _ h => h) ?_
            try simp only [List.getElem_toArray, List.getElem_cons_succ, List.getElem_cons_zero, Act.put, List.setIfInBounds_toArray, List.set_cons_zero, List.set_cons_succ]
            refine sk 40 rfl (by kernel_rfl) hHeld (fun _ _ _ h => h) ?_
            try simp only [List.getElem_toArray, List.getElem_cons_succ, List.getElem_cons_zero, Act.put, List.setIfInBounds_toArray, List.set_cons_zero, List.set_cons_succ]
            refine sk 41 rfl (by kernel_rfl) hHeld (fun _ _ _ h => h) ?_
            try simp only [List.getElem_toArray, List.getElem_cons_succ, List.getElem_cons_zero, Act.put, List.setIfInBounds_toArray, List.set_cons_zero, List.set_cons_succ]
            refine sk 42 rfl (by kernel_rfl) hHeld (fun _ _ _ h => h) ?_
            try simp only [List.getElem_toArray, List.getElem_cons_succ, List.getElem_cons_zero, Act.put, List.setIfInBounds_toArray, List.set_cons_zero, List.set_cons_succ]
            refine sk 43 rfl (by kernel_rfl) hHeld (fun _ _ _ h => h) ?_
            try simp only [List.getElem_toArray, List.getElem_cons_succ, List.getElem_cons_zero, Act.put, List.setIfInBounds_toArray, List.set_cons_zero, List.set_cons_succ]
            refine sk 44 rfl (by kernel_rfl) hHeld (fun _ _ _ h => h) ?_
            try simp only [List.getElem_toArray, List.getElem_cons_succ, List.getElem_cons_zero, Act.put, List.setIfInBounds_toArray, List.set_cons_zero, List.set_cons_succ]
            refine sk 45 rfl (by kernel_rfl) hHeld (fun _ _ _ h => h) ?_
            try simp only [List.getElem_toArray, List.getElem_cons_succ, List.getElem_cons_zero, Act.put, List.setIfInBounds_toArray, List.set_cons_zero, List.set_cons_succ]
            refine sk 46 rfl (by kernel_rfl) hHeld (fun _ _ _ h => h) ?_
            try simp only [List.getElem_toArray, List.getElem_cons_succ, List.getElem_cons_zero, Act.put, List.setIfInBounds_toArray, List.set_cons_zero, List.set_cons_succ]
            refine sk 47 rfl (by kernel_rfl) hHeld (fun _ _ _ h => h) ?_
            try simp only [List.getElem_toArray, List.getElem_cons_succ, List.getElem_cons_zero, Act.put, List.setIfInBounds_toArray, List.set_cons_zero, List.set_cons_succ]
            refine sk 48 rfl (by kernel_rfl) hHeld (fun _ _ _ h => h) ?_
            try simp only [List.getElem_toArray, List.getElem_cons_succ, List.getElem_cons_zero, Act.put, List.setIfInBounds_toArray, List.set_cons_zero, List.set_cons_succ]
            refine tk 49 rfl (by kernel_rfl) hHeld (fun _ _ _ h => h) (v := ?_) ?_ ?_
            rotate_left 1
            · (intro w hSw; (try dsimp only at hSw); (try simp only [List.getElem_toArray, List.getElem_cons_succ, List.getElem_cons_zero]); go_simp) <;> (with_reducible rfl)
            try simp only [List.getElem_toArray, List.getElem_cons_succ, List.getElem_cons_zero, Act.put, List.setIfInBounds_toArray, List.set_cons_zero, List.set_cons_succ]
            refine tk 50 rfl (by kernel_rfl) hHeld (fun _ _ _ h => h) (v := ?_) ?_ ?_
            rotate_left 1
            · (intro w hSw; (try dsimp only at hSw); (try simp only [List.getElem_toArray, List.getElem_cons_succ, List.getElem_cons_zero]); go_simp) <;> (with_reducible rfl)
            try simp only [List.getElem_toArray, List.getElem_cons_succ, List.getElem_cons_zero, Act.put, List.setIfInBounds_toArray, List.set_cons_zero, List.set_cons_succ]
            refine sk 51 rfl (by kernel_rfl) hHeld (fun _ _ _ h => h) ?_
            try simp only [List.getElem_toArray, List.getElem_cons_succ, List.getElem_cons_zero, Act.put, List.setIfInBounds_toArray, List.set_cons_zero, List.set_cons_succ]
            refine sk 52 rfl (by kernel_rfl) hHeld (fun _ _ _ h => h) ?_
            try simp only [List.getElem_toArray, List.getElem_cons_succ, List.getElem_cons_zero, Act.put, List.setIfInBounds_toArray, List.set_cons_zero, List.set_cons_succ]
            refine sk 53 rfl (by kernel_rfl) hHeld (fun _ _ _ h => h) ?_
            try simp only [List.getElem_toArray, List.getElem_cons_succ, List.getElem_cons_zero, Act.put, List.setIfInBounds_toArray, List.set_cons_zero, List.set_cons_succ]
            refine sk 54 rfl (by kernel_rfl) hHeld (fun _ _ _ h => h) ?_
            try simp only [List.getElem_toArray, List.getElem_cons_succ, List.getElem_cons_zero, Act.put, List.setIfInBounds_toArray, List.set_cons_zero, List.set_cons_succ]
            refine sk 55 rfl (by kernel_rfl) hHeld (fun _ _ _ h => h) ?_
            try simp only [List.getElem_toArray, List.getElem_cons_succ, List.getElem_cons_zero, Act.put, List.setIfInBounds_toArray, List.set_cons_zero, List.set_cons_succ]
            refine sk 56 rfl (by kernel_rfl) hHeld (fun _ _ _ h => h) ?_
            try simp only [List.getElem_toArray, List.getElem_cons_succ, List.getElem_cons_zero, Act.put, List.setIfInBounds_toArray, List.set_cons_zero, List.set_cons_succ]
            refine sk 57 rfl (by kernel_rfl) hHeld (fun _ _ _ h => h) ?_
            try simp only [List.getElem_toArray, List.getElem_cons_succ, List.getElem_cons_zero, Act.put, List.setIfInBounds_toArray, List.set_cons_zero, List.set_cons_succ]
            refine sk 58 rfl (by kernel_rfl) hHeld (fun _ _ _ h => h) ?_
            try simp only [List.getElem_toArray, List.getElem_cons_succ, List.getElem_cons_zero, Act.put, List.setIfInBounds_toArray, List.set_cons_zero, List.set_cons_succ]
            refine sk 59 rfl (by kernel_rfl) hHeld (fun _ _ _ h => h) ?_
            try simp only [List.getElem_toArray, List.getElem_cons_succ, List.getElem_cons_zero, Act.put, List.setIfInBounds_toArray, List.set_cons_zero, List.set_cons_succ]
            refine sk 60 rfl (by kernel_rfl) hHeld (fun _ _ _ h => h) ?_
            try simp only [List.getElem_toArray, List.getElem_cons_succ, List.getElem_cons_zero, Act.put, List.setIfInBounds_toArray, List.set_cons_zero, List.set_cons_succ]
            refine sk 61 rfl (by kernel_rfl) hHeld (fun _ _ _ h => h) ?_
            try simp only [List.getElem_toArray, List.getElem_cons_succ, List.getElem_cons_zero, Act.put, List.setIfInBounds_toArray, List.set_cons_zero, List.set_cons_succ]
            refine tk 62 rfl (by kernel_rfl) hHeld (fun _ _ _ h => h) (v := ?_) ?_ ?_
            rotate_left 1
            · (intro w hSw; (try dsimp only at hSw); (try simp only [List.getElem_toArray, List.getElem_cons_succ, List.getElem_cons_zero]); go_simp) <;> (with_reducible rfl)
            try simp only [List.getElem_toArray, List.getElem_cons_succ, List.getElem_cons_zero, Act.put, List.setIfInBounds_toArray, List.set_cons_zero, List.set_cons_succ]
            refine tk 63 rfl (by kernel_rfl) hHeld (fun _ _ _ h => h) (v := ?_) ?_ ?_
            rotate_left 1
            · (intro w hSw; (try dsimp only at hSw); (try simp only [List.getElem_toArray, List.getElem_cons_succ, List.getElem_cons_zero]); go_simp) <;> (with_reducible rfl)
            try simp only [List.getElem_toArray, List.getElem_cons_succ, List.getElem_cons_zero, Act.put, List.setIfInBounds_toArray, List.set_cons_zero, List.set_cons_succ]
            refine sk 64 rfl (by kernel_rfl) hHeld (fun _ _ _ h => h) ?_
            try simp only [List.getElem_toArray, List.getElem_cons_succ, List.getElem_cons_zero, Act.put, List.setIfInBounds_toArray, List.set_cons_zero, List.set_cons_succ]
            refine sk 65 rfl (by kernel_rfl) hHeld (fun _ _ _ h => h) ?_
            try simp only [List.getElem_toArray, List.getElem_cons_succ, List.getElem_cons_zero, Act.put, List.setIfInBounds_toArray, List.set_cons_zero, List.set_cons_succ]
            refine sk 66 rfl (by kernel_rfl) hHeld (fun _ _ _ h => h) ?_
            try simp only [List.getElem_toArray, List.getElem_cons_succ, List.getElem_cons_zero, Act.put, List.setIfInBounds_toArray, List.set_cons_zero, List.set_cons_succ]
            refine sk 67 rfl (by kernel_rfl) hHeld (fun _ _ _ h => h) ?_
            try simp only [List.getElem_toArray, List.getElem_cons_succ, List.getElem_cons_zero, Act.put, List.setIfInBounds_toArray, List.set_cons_zero, List.set_cons_succ]
            refine sk 68 rfl (by kernel_rfl) hHeld (fun _ _ _ h => h) ?_
            try simp only [List.getElem_toArray, List.getElem_cons_succ, List.getElem_cons_zero, Act.put, List.setIfInBounds_toArray, List.set_cons_zero, List.set_cons_succ]
            refine sk 69 rfl (by kernel_rfl) hHeld (fun _ _ _ h => h) ?_
            try simp only [List.getElem_toArray, List.getElem_cons_succ, List.getElem_cons_zero, Act.put, List.setIfInBounds_toArray, List.set_cons_zero, List.set_cons_succ]
            refine sk 70 rfl (by kernel_rfl) hHeld (fun _ _ _ h => h) ?_
            try simp only [List.getElem_toArray, List.getElem_cons_succ, List.getElem_cons_zero, Act.put, List.setIfInBounds_toArray, List.set_cons_zero, List.set_cons_succ]
            refine sk 71 rfl (by kernel_rfl) hHeld (fun _ _ _ h => h) ?_
            try simp only [List.getElem_toArray, List.getElem_cons_succ, List.getElem_cons_zero, Act.put, List.setIfInBounds_toArray, List.set_cons_zero, List.set_cons_succ]
            refine sk 72 rfl (by kernel_rfl) hHeld (fun _ _ _ h => h) ?_
            try simp only [List.getElem_toArray, List.getElem_cons_succ, List.getElem_cons_zero, Act.put, List.setIfInBounds_toArray, List.set_cons_zero, List.set_cons_succ]
            refine sk 73 rfl (by kernel_rfl) hHeld (fun _ _ _ h => h) ?_
            try simp only [List.getElem_toArray, List.getElem_cons_succ, List.getElem_cons_zero, Act.put, List.setIfInBounds_toArray, List.set_cons_zero, List.set_cons_succ]
            refine sk 74 rfl (by kernel_rfl) hHeld (fun _ _ _ h => h) ?_
            try simp only [List.getElem_toArray, List.getElem_cons_succ, List.getElem_cons_zero, Act.put, List.setIfInBounds_toArray, List.set_cons_zero, List.set_cons_succ]
            refine sk 75 rfl (by kernel_rfl) hHeld (fun _ _ _ h => h) ?_
            try simp only [List.getElem_toArray, List.getElem_cons_succ, List.getElem_cons_zero, Act.put, List.setIfInBounds_toArray, List.set_cons_zero, List.set_cons_succ]
            refine tk 76 rfl (by kernel_rfl) hHeld (fun _ _ _ h => h) (v := ?_) ?_ ?_
            rotate_left 1
            · (intro w hSw; (try dsimp only at hSw); (try simp only [List.getElem_toArray, List.getElem_cons_succ, List.getElem_cons_zero]); go_simp) <;> (with_reducible rfl)
            try simp only [List.getElem_toArray, List.getElem_cons_succ, List.getElem_cons_zero, Act.put, List.setIfInBounds_toArray, List.set_cons_zero, List.set_cons_succ]
            refine wpAnyH_done (by kernel_rfl) ?_ _
            obtain ⟨n', hn'⟩ := hHeld.2.2.2.2.2.2.2.2.2.2.2.2
            go_wp2_with fail
            go_ret
            exact ⟨ret_bool hne.out.symm, n', hn'⟩
        subst e2
        by_cases e3 : p3 = r3
        case neg =>
          ·
            have hb : (p3 != r3) = true := bne_iff_ne.2 e3
            have hne : Hid (decide (xs.map (·.c) = ys.map (·.c)) = false) := Lib.hid (decide_eq_false (NE.out (fun h => e3 (by injection h))))
            clear e3 NE PV GL2
            go_wp2_with fail
            try simp only [List.append_eq, List.cons_append, List.nil_append]
            refine wp_region_held_drew (S := fun w' => w'.cell? ⟨b1, o1 + k * 6, none⟩ = some (.int .i64 p0) ∧ w'.cell? ⟨b1, o1 + k * 6 + 1, none⟩ = some (.int .i64 p1) ∧ w'.cell? ⟨b1, o1 + k * 6 + 2, none⟩ = some (.int .i64 p2) ∧ w'.cell? ⟨b1, o1 + k * 6 + 3, none⟩ = some (.int .i64 p3) ∧ w'.cell? ⟨b1, o1 + k * 6 + 4, none⟩ = some (.int .i64 p4) ∧ w'.cell? ⟨b1, o1 + k * 6 + 5, none⟩ = some (.slice A3 n1 c3) ∧ w'.cell? ⟨b2, o2 + k * 6, none⟩ = some (.int .i64 p0) ∧ w'.cell? ⟨b2, o2 + k * 6 + 1, none⟩ = some (.int .i64 p1) ∧ w'.cell? ⟨b2, o2 + k * 6 + 2, none⟩ = some (.int .i64 p2) ∧ w'.cell? ⟨b2, o2 + k * 6 + 3, none⟩ = some (.int .i64 r3) ∧ w'.cell? ⟨b2, o2 + k * 6 + 4, none⟩ = some (.int .i64 r4) ∧ w'.cell? ⟨b2, o2 + k * 6 + 5, none⟩ = some (.slice A4 n2 c4) ∧ ∃ n, w' = w.drewN n) (by kernel_rfl) ⟨x0, x1, x2, x3, x4, x5, y0, y1, y2, y3, y4, y5, n + 1, rfl⟩ (fun hHeld => ?_)
            refine tk 0 rfl (by kernel_rfl) hHeld (fun _ _ _ h => h) (v := ?_) ?_ ?_
            rotate_left 1
            · (intro w hSw; (try dsimp only at hSw); (try simp only [List.getElem_toArray, List.getElem_cons_succ, List.getElem_cons_zero]); go_simp) <;> (with_reducible rfl)
            try simp only [List.getElem_toArray, List.getElem_cons_succ, List.getElem_cons_zero, Act.put, List.setIfInBounds_toArray, List.set_cons_zero, List.set_cons_succ]
            refine tk 1 rfl (by kernel_rfl) hHeld (fun _ _ _ h => h) (v := ?_) ?_ ?_
            rotate_left 1
            · (intro w hSw; (try dsimp only at hSw); (try simp only [List.getElem_toArray, List.getElem_cons_succ, List.getElem_cons_zero]); go_simp) <;> (with_reducible rfl)
            try simp only [List.getElem_toArray, List.getElem_cons_succ, List.getElem_cons_zero, Act.put, List.setIfInBounds_toArray, List.set_cons_zero, List.set_cons_succ]
            refine tk 2 rfl (by kernel_rfl) hHeld (fun _ _ _ h => h) (v := ?_) ?_ ?_
            rotate_left 1
            · (intro w hSw; (try dsimp only at hSw); (try simp only [List.getElem_toArray, List.getElem_cons_succ, List.getElem_cons_zero]); go_simp) <;> (with_reducible rfl)
            try simp only [List.getElem_toArray, List.getElem_cons_succ, List.getElem_cons_zero, Act.put, List.setIfInBounds_toArray, List.set_cons_zero, List.set_cons_succ]
            refine tk 3 rfl (by kernel_rfl) hHeld (fun _ _ _ h => h) (v := ?_) ?_ ?_
            rotate_left 1
            · (intro w hSw; (try dsimp only at hSw); (try simp only [List.getElem_toArray, List.getElem_cons_succ, List.getElem_cons_zero]); go_simp) <;> (with_reducible rfl)
            try simp only [List.getElem_toArray, List.getElem_cons_succ, List.getElem_cons_zero, Act.put, List.setIfInBounds_toArray, List.set_cons_zero, List.set_cons_succ]
            refine tk 4 rfl (by kernel_rfl) hHeld (fun _ _ _ h => h) (v := ?_) ?_ ?_
            rotate_left 1
            · (intro w hSw; (try dsimp only at hSw); (try simp only [List.getElem_toArray, List.getElem_cons_succ, List.getElem_cons_zero]); go_simp) <;> (with_reducible rfl)
            try simp only [List.getElem_toArray, List.getElem_cons_succ, List.getElem_cons_zero, Act.put, List.setIfInBounds_toArray, List.set_cons_zero, List.set_cons_succ]
            refine tk 5 rfl (by kernel_rfl) hHeld (fun _ _ _ h => h) (v := ?_) ?_ ?_
            rotate_left 1
            · (intro w hSw; (try dsimp only at hSw); (try simp only [List.getElem_toArray, List.getElem_cons_succ, List.getElem_cons_zero]); go_simp) <;> (with_reducible rfl)
            try simp only [List.getElem_toArray, List.getElem_cons_succ, List.getElem_cons_zero, Act.put, List.setIfInBounds_toArray, List.set_cons_zero, List.set_cons_succ]
            refine tk 6 rfl (by kernel_rfl) hHeld (fun _ _ _ h => h) (v := ?_) ?_ ?_
            rotate_left 1
            · (intro w hSw; (try dsimp only at hSw); (try simp only [List.getElem_toArray, List.getElem_cons_succ, List.getElem_cons_zero]); go_simp) <;> (with_reducible rfl)
            try simp only [List.getElem_toArray, List.getElem_cons_succ, List.getElem_cons_zero, Act.put, List.setIfInBounds_toArray, List.set_cons_zero, List.set_cons_succ]
            refine tk 7 rfl (by kernel_rfl) hHeld (fun _ _ _ h => h) (v := ?_) ?_ ?_
            rotate_left 1
            · (intro w hSw; (try dsimp only at hSw); (try simp only [List.getElem_toArray, List.getElem_cons_succ, List.getElem_cons_zero]); go_simp) <;> (with_reducible rfl)
            try simp only [List.getElem_toArray, List.getElem_cons_succ, List.getElem_cons_zero, Act.put, List.setIfInBounds_toArray, List.set_cons_zero, List.set_cons_succ]
            refine tk 8 rfl (by kernel_rfl) hHeld (fun _ _ _ h => h) (v := ?_) ?_ ?_
            rotate_left 1
            · (intro w hSw; (try dsimp only at hSw); (try simp only [List.getElem_toArray, List.getElem_cons_succ, List.getElem_cons_zero]); go_simp) <;> (with_reducible rfl)
            try simp only [List.getElem_toArray, List.getElem_cons_succ, List.getElem_cons_zero, Act.put, List.setIfInBounds_toArray, List.set_cons_zero, List.set_cons_succ]
            refine tk 9 rfl (by kernel_rfl) hHeld (fun _ _ _ h => h) (v := ?_) ?_ ?_
            rotate_left 1
            · (intro w hSw; (try dsimp only at hSw); (try simp only [List.getElem_toArray, List.getElem_cons_succ, List.getElem_cons_zero]); go_simp) <;> (with_reducible rfl)
            try simp only [List.getElem_toArray, List.getElem_cons_succ, List.getElem_cons_zero, Act.put, List.setIfInBounds_toArray, List.set_cons_zero, List.set_cons_succ]
            refine tk 10 rfl (by kernel_rfl) hHeld (fun _ _ _ h => h) (v := ?_) ?_ ?_
            rotate_left 1
            · (intro w hSw; (try dsimp only at hSw); (try simp only [List.getElem_toArray, List.getElem_cons_succ, List.getElem_cons_zero]); go_simp) <;> (with_reducible rfl)
            try simp only [List.getElem_toArray, List.getElem_cons_succ, List.getElem_cons_zero, Act.put, List.setIfInBounds_toArray, List.set_cons_zero, List.set_cons_succ]
            refine tk 11 rfl (by kernel_rfl) hHeld (fun _ _ _ h => h) (v := ?_) ?_ ?_
            rotate_left 1
            · (intro w hSw; (try dsimp only at hSw); (try simp only [List.getElem_toArray, List.getElem_cons_succ, List.getElem_cons_zero]); go_simp) <;> (with_reducible rfl)
            try simp only [List.getElem_toArray, List.getElem_cons_succ, List.getElem_cons_zero, Act.put, List.setIfInBounds_toArray, List.set_cons_zero, List.set_cons_succ]
            refine tk 12 rfl (by kernel_rfl) hHeld (fun _ _ _ h => h) (v := ?_) ?_ ?_
            rotate_left 1
            · (intro w hSw; (try dsimp only at hSw); (try simp only [List.getElem_toArray, List.getElem_cons_succ, List.getElem_cons_zero]); go_simp) <;> (with_reducible rfl)
            try simp only [List.getElem_toArray, List.getElem_cons_succ, List.getElem_cons_zero, Act.put, List.setIfInBounds_toArray, List.set_cons_zero, List.set_cons_succ]
            refine tk 13 rfl (by kernel_rfl) hHeld (fun _ _ _ h => h) (v := ?_) ?_ ?_
            rotate_left 1
            · (intro w hSw; (try dsimp only at hSw); (try simp only [List.getElem_toArray, List.getElem_cons_succ, List.getElem_cons_zero]); go_simp) <;> (with_reducible rfl)
            try simp only [List.getElem_toArray, List.getElem_cons_succ, List.getElem_cons_zero, Act.put, List.setIfInBounds_toArray, List.set_cons_zero, List.set_cons_succ]
            refine tk 14 rfl (by kernel_rfl) hHeld (fun _ _ _ h => h) (v := ?_) ?_ ?_
            rotate_left 1
            · (intro w hSw; (try dsimp only at hSw); (try simp only [List.getElem_toArray, List.getElem_cons_succ, List.getElem_cons_zero]); go_simp) <;> (with_reducible rfl)
            try simp only [List.getElem_toArray, List.getElem_cons_succ, List.getElem_cons_zero, Act.put, List.setIfInBounds_toArray, List.set_cons_zero, List.set_cons_succ]
            refine tk 15 rfl (by kernel_rfl) hHeld (fun _ _ _ h => h) (v := ?_) ?_ ?_
            rotate_left 1
            · (intro w hSw; (try dsimp only at hSw); (try simp only [List.getElem_toArray, List.getElem_cons_succ, List.getElem_cons_zero]); go_simp) <;> (with_reducible rfl)
            try simp only [List.getElem_toArray, List.getElem_cons_succ, List.getElem_cons_zero, Act.put, List.setIfInBounds_toArray, List.set_cons_zero, List.set_cons_succ]
            refine tk 16 rfl (by kernel_rfl) hHeld (fun _ _ _ h => h) (v := ?_) ?_ ?_
            rotate_left 1
            · (intro w hSw; (try dsimp only at hSw); (try simp only [List.getElem_toArray, List.getElem_cons_succ, List.getElem_cons_zero]); go_simp) <;> (with_reducible rfl)
            try simp only [List.getElem_toArray, List.getElem_cons_succ, List.getElem_cons_zero, Act.put, List.setIfInBounds_toArray, List.set_cons_zero, List.set_cons_succ]
            refine tk 17 rfl (by kernel_rfl) hHeld (fun _ _ _ h => h) (v := ?_) ?_ ?_
            rotate_left 1
            · (intro w hSw; (try dsimp only at hSw); (try simp only [List.getElem_toArray, List.getElem_cons_succ, List.getElem_cons_zero]); go_simp) <;> (with_reducible rfl)
            try simp only [List.getElem_toArray, List.getElem_cons_succ, List.getElem_cons_zero, Act.put, List.setIfInBounds_toArray, List.set_cons_zero, List.set_cons_succ]
            refine tk 18 rfl (by kernel_rfl) hHeld (fun _ _ _ h => h) (v := ?_) ?_ ?_
            rotate_left 1
            · (intro w hSw; (try dsimp only at hSw); (try simp only [List.getElem_toArray, List.getElem_cons_succ, List.getElem_cons_zero]); go_simp) <;> (with_reducible rfl)
            try simp only [List.getElem_toArray, List.getElem_cons_succ, List.getElem_cons_zero, Act.put, List.setIfInBounds_toArray, List.set_cons_zero, List.set_cons_succ]
            refine tk 19 rfl (by kernel_rfl) hHeld (fun _ _ _ h => h) (v := ?_) ?_ ?_
            rotate_left 1
            · (intro w hSw; (try dsimp only at hSw); (try simp only [List.getElem_toArray, List.getElem_cons_succ, List.getElem_cons_zero]); go_simp) <;> (with_reducible rfl)
            try simp only [List.getElem_toArray, List.getElem_cons_succ, List.getElem_cons_zero, Act.put, List.setIfInBounds_toArray, List.set_cons_zero, List.set_cons_succ]
            refine tk 20 rfl (by kernel_rfl) hHeld (fun _ _ _ h => h) (v := ?_) ?_ ?_
            rotate_left 1
            · (intro w hSw; (try dsimp only at hSw); (try simp only [List.getElem_toArray, List.getElem_cons_succ, List.getElem_cons_zero]); go_simp) <;> (with_reducible rfl)
            try simp only [List.getElem_toArray, List.getElem_cons_succ, List.getElem_cons_zero, Act.put, List.setIfInBounds_toArray, List.set_cons_zero, List.set_cons_succ]
            refine tk 21 rfl (by kernel_rfl) hHeld (fun _ _ _ h => h) (v := ?_) ?_ ?_
            rotate_left 1
            · (intro w hSw; (try dsimp only at hSw); (try simp only [List.getElem_toArray, List.getElem_cons_succ, List.getElem_cons_zero]); go_simp) <;> (with_reducible rfl)
            try simp only [List.getElem_toArray, List.getElem_cons_succ, List.getElem_cons_zero, Act.put, List.setIfInBounds_toArray, List.set_cons_zero, List.set_cons_succ]
            refine tk 22 rfl (by kernel_rfl) hHeld (fun _ _ _ h => h) (v := ?_) ?_ ?_
            rotate_left 1
            · (intro w hSw; (try dsimp only at hSw); (try simp only [List.getElem_toArray, List.getElem_cons_succ, List.getElem_cons_zero]); go_simp) <;> (with_reducible rfl)
            try simp only [List.getElem_toArray, List.getElem_cons_succ, List.getElem_cons_zero, Act.put, List.setIfInBounds_toArray, List.set_cons_zero, List.set_cons_succ]
            refine tk 23 rfl (by kernel_rfl) hHeld (fun _ _ _ h => h) (v := ?_) ?_ ?_
            rotate_left 1
            · (intro w hSw; (try dsimp only at hSw); (try simp only [List.getElem_toArray, List.getElem_cons_succ, List.getElem_cons_zero]); go_simp) <;> (with_reducible rfl)
            try simp only [List.getElem_toArray, List.getElem_cons_succ, List.getElem_cons_zero, Act.put, List.setIfInBounds_toArray, List.set_cons_zero, List.set_cons_succ]
            refine tk 24 rfl (by kernel_rfl) hHeld (fun _ _ _ h => h) (v := ?_) ?_ ?_
            rotate_left 1
            · (intro w hSw; (try dsimp only at hSw); (try simp only [List.getElem_toArray, List.getElem_cons_succ, List.getElem_cons_zero]); go_simp) <;> (with_reducible rfl)
            try simp only [List.getElem_toArray, List.getElem_cons_succ, List.getElem_cons_zero, Act.put, List.setIfInBounds_toArray, List.set_cons_zero, List.set_cons_succ]
            refine tk 25 rfl (by kernel_rfl) hHeld (fun _ _ _ h => h) (v := ?_) ?_ ?_
            rotate_left 1
            · (intro w hSw; (try dsimp only at hSw); (try simp only [List.getElem_toArray, List.getElem_cons_succ, List.getElem_cons_zero]); go_simp) <;> (with_reducible rfl)
            try simp only [List.getElem_toArray, List.getElem_cons_succ, List.getElem_cons_zero, Act.put, List.setIfInBounds_toArray, List.set_cons_zero, List.set_cons_succ]
            refine tk 26 rfl (by kernel_rfl) hHeld (fun _ _ _ h => h) (v := ?_) ?_ ?_
            rotate_left 1
            · (intro w hSw; (try dsimp only at hSw); (try simp only [List.getElem_toArray, List.getElem_cons_succ, List.getElem_cons_zero]); go_simp) <;> (with_reducible rfl)
            try simp only [List.getElem_toArray, List.getElem_cons_succ, List.getElem_cons_zero, Act.put, List.setIfInBounds_toArray, List.set_cons_zero, List.set_cons_succ]
            refine tk 27 rfl (by kernel_rfl) hHeld (fun _ _ _ h => h) (v := ?_) ?_ ?_
            rotate_left 1
            · (intro w hSw; (try dsimp only at hSw); (try simp only [List.getElem_toArray, List.getElem_cons_succ, List.getElem_cons_zero]); go_simp) <;> (with_reducible rfl)
            try simp only [List.getElem_toArray, List.getElem_cons_succ, List.getElem_cons_zero, Act.put, List.setIfInBounds_toArray, List.set_cons_zero, List.set_cons_succ]
            refine tk 28 rfl (by kernel_rfl) hHeld (fun _ _ _ h => h) (v := ?_) ?_ ?_
            rotate_left 1
            · (intro w hSw; (try dsimp only at hSw); (try simp only [List.getElem_toArray, List.getElem_cons_succ, List.getElem_cons_zero]); go_simp) <;> (with_reducible rfl)
            try simp only [List.getElem_toArray, List.getElem_cons_succ, List.getElem_cons_zero, Act.put, List.setIfInBounds_toArray, List.set_cons_zero, List.set_cons_succ]
            refine tk 29 rfl (by kernel_rfl) hHeld (fun _ _ _ h => h) (v := ?_) ?_ ?_
            rotate_left 1
            · (intro w hSw; (try dsimp only at hSw); (try simp only [List.getElem_toArray, List.getElem_cons_succ, List.getElem_cons_zero]); go_simp) <;> (with_reducible rfl)
            try simp only [List.getElem_toArray, List.getElem_cons_succ, List.getElem_cons_zero, Act.put, List.setIfInBounds_toArray, List.set_cons_zero, List.set_cons_succ]
            refine tk 30 rfl (by kernel_rfl) hHeld (fun _ _ _ h => h) (v := ?_) ?_ ?_
            rotate_left 1
            · (intro w hSw; (try dsimp only at hSw); (try simp only [List.getElem_toArray, List.getElem_cons_succ, List.getElem_cons_zero]); go_simp) <;> (with_reducible rfl)
            try simp only [List.getElem_toArray, List.getElem_cons_succ, List.getElem_cons_zero, Act.put, List.setIfInBounds_toArray, List.set_cons_zero, List.set_cons_succ]
            refine tk 31 rfl (by kernel_rfl) hHeld (fun _ _ _ h => h) (v := ?_) ?_ ?_
            rotate_left 1
            · (intro w hSw; (try dsimp only at hSw); (try simp only [List.getElem_toArray, List.getElem_cons_succ, List.getElem_cons_zero]); go_simp) <;> (with_reducible rfl)
            try simp only [List.getElem_toArray, List.getElem_cons_succ, List.getElem_cons_zero, Act.put, List.setIfInBounds_toArray, List.set_cons_zero, List.set_cons_succ]
            refine tk 32 rfl (by kernel_rfl) hHeld (fun _ _ _ h => h) (v := ?_) ?_ ?_
            rotate_left 1
            · (intro w hSw; (try dsimp only at hSw); (try simp only [List.getElem_toArray, List.getElem_cons_succ, List.getElem_cons_zero]); go_simp) <;> (with_reducible rfl)
            try simp only [List.getElem_toArray, List.getElem_cons_succ, List.getElem_cons_zero, Act.put, List.setIfInBounds_toArray, List.set_cons_zero, List.set_cons_succ]
            refine tk 33 rfl (by kernel_rfl) hHeld (fun _ _ _ h => h) (v := ?_) ?_ ?_
            rotate_left 1
            · (intro w hSw; (try dsimp only at hSw); (try simp only [List.getElem_toArray, List.getElem_cons_succ, List.getElem_cons_zero]); go_simp) <;> (with_reducible rfl)
            try simp only [List.getElem_toArray, List.getElem_cons_succ, List.getElem_cons_zero, Act.put, List.setIfInBounds_toArray, List.set_cons_zero, List.set_cons_succ]
            refine tk 34 rfl (by kernel_rfl) hHeld (fun _ _ _ h => h) (v := ?_) ?_ ?_
            rotate_left 1
            · (intro w hSw; (try dsimp only at hSw); (try simp only [List.getElem_toArray, List.getElem_cons_succ, List.getElem_cons_zero]); go_simp) <;> (with_reducible rfl)
            try simp only [List.getElem_toArray, List.getElem_cons_succ, List.getElem_cons_zero, Act.put, List.setIfInBounds_toArray, List.set_cons_zero, List.set_cons_succ]
            refine tk 35 rfl (by kernel_rfl) hHeld (fun _ _ _ h => h) (v := ?_) ?_ ?_
            rotate_left 1
            · (intro w hSw; (try dsimp only at hSw); (try simp only [List.getElem_toArray, List.getElem_cons_succ, List.getElem_cons_zero]); go_simp) <;> (with_reducible rfl)
            try simp only [List.getElem_toArray, List.getElem_cons_succ, List.getElem_cons_zero, Act.put, List.setIfInBounds_toArray, List.set_cons_zero, List.set_cons_succ]
            refine tk 36 rfl (by kernel_rfl) hHeld (fun _ _ _ h => h) (v := ?_) ?_ ?_
            rotate_left 1
            · (intro w hSw; (try dsimp only at hSw); (try simp only [List.getElem_toArray, List.getElem_cons_succ, List.getElem_cons_zero]); go_simp) <;> (with_reducible rfl)
            try simp only [List.getElem_toArray, List.getElem_cons_succ, List.getElem_cons_zero, Act.put, List.setIfInBounds_toArray, List.set_cons_zero, List.set_cons_succ]
            refine tk 37 rfl (by kernel_rfl) hHeld (fun _ _ _ h => h) (v := ?_) ?_ ?_
            rotate_left 1
            · (intro w hSw; (try dsimp only at hSw); (try simp only [List.getElem_toArray, List.getElem_cons_succ, List.getElem_cons_zero]); go_simp) <;> (with_reducible rfl)
            try simp only [List.getElem_toArray, List.getElem_cons_succ, List.getElem_cons_zero, Act.put, List.setIfInBounds_toArray, List.set_cons_zero, List.set_cons_succ]
            refine tk 38 rfl (by kernel_rfl) hHeld (fun _ _ _ h => h) (v := ?_) ?_ ?_
            rotate_left 1
            · (intro w hSw; (try dsimp only at hSw); (try simp only [List.getElem_toArray, List.getElem_cons_succ, List.getElem_cons_zero]); go_simp) <;> (with_reducible rfl)
            try simp only [List.getElem_toArray, List.getElem_cons_succ, List.getElem_cons_zero, Act.put, List.setIfInBounds_toArray, List.set_cons_zero, List.set_cons_succ]
            refine tk 39 rfl (by kernel_rfl) hHeld (fun _ _ _ h => h) (v := ?_) ?_ ?_
            rotate_left 1
            · (intro w hSw; (try dsimp only at hSw); (try simp only [List.getElem_toArray, List.getElem_cons_succ, List.getElem_cons_zero]); go_simp) <;> (with_reducible rfl)
            try simp only [List.getElem_toArray, List.getElem_cons_succ, List.getElem_cons_zero, Act.put, List.setIfInBounds_toArray, List.set_cons_zero, List.set_cons_succ]
            refine tk 40 rfl (by kernel_rfl) hHeld (fun _ _ _ h => h) (v := ?_) ?_ ?_
            rotate_left 1
            · (intro w hSw; (try dsimp only at hSw); (try simp only [List.getElem_toArray, List.getElem_cons_succ, List.getElem_cons_zero]); go_simp) <;> (with_reducible rfl)
            try simp only [List.getElem_toArray, List.getElem_cons_succ, List.getElem_cons_zero, Act.put, List.setIfInBounds_toArray, List.set_cons_zero, List.set_cons_succ]
            refine tk 41 rfl (by kernel_rfl) hHeld (fun _ _ _ h => h) (v := ?_) ?_ ?_
            rotate_left 1
            · (intro w hSw; (try dsimp only at hSw); (try simp only [List.getElem_toArray, List.getElem_cons_succ, List.getElem_cons_zero]); go_simp) <;> (with_reducible rfl)
            try simp only [List.getElem_toArray, List.getElem_cons_succ, List.getElem_cons_zero, Act.put, List.setIfInBounds_toArray, List.set_cons_zero, List.set_cons_succ]
            refine tk 42 rfl (by kernel_rfl) hHeld (fun _ _ _ h => h) (v := ?_) ?_ ?_
            rotate_left 1
            · (intro w hSw; (try dsimp only at hSw); (try simp only [List.getElem_toArray, List.getElem_cons_succ, List.getElem_cons_zero]); go_simp) <;> (with_reducible rfl)
            try simp only [List.getElem_toArray, List.getElem_cons_succ, List.getElem_cons_zero, Act.put, List.setIfInBounds_toArray, List.set_cons_zero, List.set_cons_succ]
            refine tk 43 rfl (by kernel_rfl) hHeld (fun _ _ _ h => h) (v := ?_) ?_ ?_
            rotate_left 1
            · (intro w hSw; (try dsimp only at hSw); (try simp only [List.getElem_toArray, List.getElem_cons_succ, List.getElem_cons_zero]); go_simp) <;> (with_reducible rfl)
            try simp only [List.getElem_toArray, List.getElem_cons_succ, List.getElem_cons_zero, Act.put, List.setIfInBounds_toArray, List.set_cons_zero, List.set_cons_succ]
            refine tk 44 rfl (by kernel_rfl) hHeld (fun _ _ _ h => h) (v := ?_) ?_ ?_
            rotate_left 1
            · (intro w hSw; (try dsimp only at hSw); (try simp only [List.getElem_toArray, List.getElem_cons_succ, List.getElem_cons_zero]); go_simp) <;> (with_reducible rfl)
            try simp only [List.getElem_toArray, List.getElem_cons_succ, List.getElem_cons_zero, Act.put, List.setIfInBounds_toArray, List.set_cons_zero, List.set_cons_succ]
            refine tk 45 rfl (by kernel_rfl) hHeld (fun _ _ _ h => h) (v := ?_) ?_ ?_
            rotate_left 1
            · (intro w hSw; (try dsimp only at hSw); (try simp only [List.getElem_toArray, List.getElem_cons_succ, List.getElem_cons_zero]); go_simp) <;> (with_reducible rfl)
            try simp only [List.getElem_toArray, List.getElem_cons_succ, List.getElem_cons_zero, Act.put, List.setIfInBounds_toArray, List.set_cons_zero, List.set_cons_succ]
            refine tk 46 rfl (by kernel_rfl) hHeld (fun _ _ _ h => h) (v := ?_) ?_ ?_
            rotate_left 1
            · (intro w hSw; (try dsimp only at hSw); (try simp only [List.getElem_toArray, List.getElem_cons_succ, List.getElem_cons_zero]); go_simp) <;> (with_reducible rfl)
            try simp only [List.getElem_toArray, List.getElem_cons_succ, List.getElem_cons_zero, Act.put, List.setIfInBounds_toArray, List.set_cons_zero, List.set_cons_succ]
            refine tk 47 rfl (by kernel_rfl) hHeld (fun _ _ _ h => h) (v := ?_) ?_ ?_
            rotate_left 1
            · (intro w hSw; (try dsimp only at hSw); (try simp only [List.getElem_toArray, List.getElem_cons_succ, List.getElem_cons_zero]); go_simp) <;> (with_reducible rfl)
            try simp only [List.getElem_toArray, List.getElem_cons_succ, List.getElem_cons_zero, Act.put, List.setIfInBounds_toArray, List.set_cons_zero, List.set_cons_succ]
            refine tk 48 rfl (by kernel_rfl) hHeld (fun _ _ _ h => h) (v := ?_) ?_ ?_
            rotate_left 1
            · (intro w hSw; (try dsimp only at hSw); (try simp only [List.getElem_toArray, List.getElem_cons_succ, List.getElem_cons_zero]); go_simp) <;> (with_reducible rfl)
            try simp only [List.getElem_toArray, List.getElem_cons_succ, List.getElem_cons_zero, Act.put, List.setIfInBounds_toArray, List.set_cons_zero, List.set_cons_succ]
            refine tk 49 rfl (by kernel_rfl) hHeld (fun _ _ _ h => h) (v := ?_) ?_ ?_
            rotate_left 1
            · (intro w hSw; (try dsimp only at hSw); (try simp only [List.getElem_toArray, List.getElem_cons_succ, List.getElem_cons_zero]); go_simp) <;> (with_reducible rfl)
            try simp only [List.getElem_toArray, List.getElem_cons_succ, List.getElem_cons_zero, Act.put, List.setIfInBounds_toArray, List.set_cons_zero, List.set_cons_succ]
            refine tk 50 rfl (by kernel_rfl) hHeld (fun _ _ _ h => h) (v := ?_) ?_ ?_
            rotate_left 1
            · (intro w hSw; (try dsimp only at hSw); (try simp only [List.getElem_toArray, List.getElem_cons_succ, List.getElem_cons_zero]); go_simp) <;> (with_reducible rfl)
            try simp only [List.getElem_toArray, List.getElem_cons_succ, List.getElem_cons_zero, Act.put, List.setIfInBounds_toArray, List.set_cons_zero, List.set_cons_succ]
            refine sk 51 rfl (by kernel_rfl) hHeld (fun _ _ _ h => h) ?_
            try simp only [List.getElem_toArray, List.getElem_cons_succ, List.getElem_cons_zero, Act.put, List.setIfInBounds_toArray, List.set_cons_zero, List.set_cons_succ]
            refine sk 52 rfl (by kernel_rfl) hHeld (fun _ _ _ h => h) ?_
            try simp only [List.getElem_toArray, List.getElem_cons_succ, List.getElem_cons_zero, Act.put, List.setIfInBounds_toArray, List.set_cons_zero, List.set_cons_succ]
            refine sk 53 rfl (by kernel_rfl) hHeld (fun _ _ _ h => h) ?_
            try simp only [List.getElem_toArray, List.getElem_cons_succ, List.getElem_cons_zero, Act.put, List.setIfInBounds_toArray, List.set_cons_zero, List.set_cons_succ]
            refine sk 54 rfl (by kernel_rfl) hHeld (fun _ _ _ h => h) ?_
            try simp only [List.getElem_toArray, List.getElem_cons_succ, List.getElem_cons_zero, Act.put, List.setIfInBounds_toArray, List.set_cons_zero, List.set_cons_succ]
            refine sk 55 rfl (by kernel_rfl) hHeld (fun _ _ _ h => h) ?_
            try simp only [List.getElem_toArray, List.getElem_cons_succ, List.getElem_cons_zero, Act.put, List.setIfInBounds_toArray, List.set_cons_zero, List.set_cons_succ]
            refine sk 56 rfl (by kernel_rfl) hHeld (fun _ _ _ h => h) ?_
            try simp only [List.getElem_toArray, List.getElem_cons_succ, List.getElem_cons_zero, Act.put, List.setIfInBounds_toArray, List.set_cons_zero, List.set_cons_succ]
            refine sk 57 rfl (by kernel_rfl) hHeld (fun _ _ _ h => h) ?_
            try simp only [List.getElem_toArray, List.getElem_cons_succ, List.getElem_cons_zero, Act.put, List.setIfInBounds_toArray, List.set_cons_zero, List.set_cons_succ]
            refine sk 58 rfl (by kernel_rfl) hHeld (fun _ _ _ h => h) ?_
            try simp only [List.getElem_toArray, List.getElem_cons_succ, List.getElem_cons_zero, Act.put, List.setIfInBounds_toArray, List.set_cons_zero, List.set_cons_succ]
            refine sk 59 rfl (by kernel_rfl) hHeld (fun _ _ _ h => h) ?_
            try simp only [List.getElem_toArray, List.getElem_cons_succ, List.getElem_cons_zero, Act.put, List.setIfInBounds_toArray, List.set_cons_zero, List.set_cons_succ]
            refine sk 60 rfl (by kernel_rfl) hHeld (fun _ _ _ h => h) ?_
            try simp only [List.getElem_toArray, List.getElem_cons_succ, List.getElem_cons_zero, Act.put, List.setIfInBounds_toArray, List.set_cons_zero, List.set_cons_succ]
            refine sk 61 rfl (by kernel_rfl) hHeld (fun _ _ _ h => h) ?_
            try simp only [List.getElem_toArray, List.getElem_cons_succ, List.getElem_cons_zero, Act.put, List.setIfInBounds_toArray, List.set_cons_zero, List.set_cons_succ]
            refine tk 62 rfl (by kernel_rfl) hHeld (fun _ _ _ h => h) (v := ?_) ?_ ?_
            rotate_left 1
            · (intro w hSw; (try dsimp only at hSw); (try simp only [List.getElem_toArray, List.getElem_cons_succ, List.getElem_cons_zero]); go_simp) <;> (with_reducible rfl)
            try simp only [List.getElem_toArray, List.getElem_cons_succ, List.getElem_cons_zero, Act.put, List.setIfInBounds_toArray, List.set_cons_zero, List.set_cons_succ]
            refine tk 63 rfl (by kernel_rfl) hHeld (fun _ _ _ h => h) (v := ?_) ?_ ?_
            rotate_left 1
            · (intro w hSw; (try dsimp only at hSw); (try simp only [List.getElem_toArray, List.getElem_cons_succ, List.getElem_cons_zero]); go_simp) <;> (with_reducible rfl)
            try simp only [List.getElem_toArray, List.getElem_cons_succ, List.getElem_cons_zero, Act.put, List.setIfInBounds_toArray, List.set_cons_zero, List.set_cons_succ]
            refine sk 64 rfl (by kernel_rfl) hHeld (fun _ _ _ h => h) ?_
            try simp only [List.getElem_toArray, List.getElem_cons_succ, List.getElem_cons_zero, Act.put, List.setIfInBounds_toArray, List.set_cons_zero, List.set_cons_succ]
            refine sk 65 rfl (by kernel_rfl) hHeld (fun _ _ _ h => h) ?_
            try simp only [List.getElem_toArray, List.getElem_cons_succ, List.getElem_cons_zero, Act.put, List.setIfInBounds_toArray, List.set_cons_zero, List.set_cons_succ]
            refine sk 66 rfl (by kernel_rfl) hHeld (fun _ _ _ h => h) ?_
            try simp only [List.getElem_toArray, List.getElem_cons_succ, List.getElem_cons_zero, Act.put, List.setIfInBounds_toArray, List.set_cons_zero, List.set_cons_succ]
            refine sk 67 rfl (by kernel_rfl) hHeld (fun _ _ _ h => h) ?_
            try simp only [List.getElem_toArray, List.getElem_cons_succ, List.getElem_cons_zero, Act.put, List.setIfInBounds_toArray, List.set_cons_zero, List.set_cons_succ]
            refine sk 68 rfl (by kernel_rfl) hHeld (fun _ _ _ h => h) ?_
            try simp only [List.getElem_toArray, List.getElem_cons_succ, List.getElem_cons_zero, Act.put, List.setIfInBounds_toArray, List.set_cons_zero, List.set_cons_succ]
            refine sk 69 rfl (by kernel_rfl) hHeld (fun _ _ _ h => h) ?_
            try simp only [List.getElem_toArray, List.getElem_cons_succ, List.getElem_cons_zero, Act.put, List.setIfInBounds_toArray, List.set_cons_zero, List.set_cons_succ]
            refine sk 70 rfl (by kernel_rfl) hHeld (fun _ _ _ h => h) ?_
            try simp only [List.getElem_toArray, List.getElem_cons_succ, List.getElem_cons_zero, Act.put, List.setIfInBounds_toArray, List.set_cons_zero, List.set_cons_succ]
            refine sk 71 rfl (by kernel_rfl) hHeld (fun _ _ _ h => h) ?_
            try simp only [List.getElem_toArray, List.getElem_cons_succ, List.getElem_cons_zero, Act.put, List.setIfInBounds_toArray, List.set_cons_zero, List.set_cons_succ]
            refine sk 72 rfl (by kernel_rfl) hHeld (fun _ _ _ h => h) ?_
            try simp only [List.getElem_toArray, List.getElem_cons_succ, List.getElem_cons_zero, Act.put, List.setIfInBounds_toArray, List.set_cons_zero, List.set_cons_succ]
            refine sk 73 rfl (by kernel_rfl) hHeld (fun _ _ _ h => h) ?_
            try simp only [List.getElem_toArray, List.getElem_cons_succ, List.getElem_cons_zero, Act.put, List.setIfInBounds_toArray, List.set_cons_zero, List.set_cons_succ]
            refine sk 74 rfl (by kernel_rfl) hHeld (fun _ _ _ h => h) ?_
            try simp only [List.getElem_toArray, List.getElem_cons_succ, List.getElem_cons_zero, Act.put, List.setIfInBounds_toArray, List.set_cons_zero, List.set_cons_succ]
            refine sk 75 rfl (by kernel_rfl) hHeld (fun _ _ _ h => h) ?_
            try simp only [List.getElem_toArray, List.getElem_cons_succ, List.getElem_cons_zero, Act.put, List.setIfInBounds_toArray, List.set_cons_zero, List.set_cons_succ]
            refine tk 76 rfl (by kernel_rfl) hHeld (fun _ _ _ h => h) (v := ?_) ?_ ?_
            rotate_left 1
            · (intro w hSw; (try dsimp only at hSw); (try simp only [List.getElem_toArray, List.getElem_cons_succ, List.getElem_cons_zero]); go_simp) <;> (with_reducible rfl)
            try simp only [List.getElem_toArray, List.getElem_cons_succ, List.getElem_cons_zero, Act.put, List.setIfInBounds_toArray, List.set_cons_zero, List.set_cons_succ]
            refine wpAnyH_done (by kernel_rfl) ?_ _
            obtain ⟨n', hn'⟩ := hHeld.2.2.2.2.2.2.2.2.2.2.2.2
            go_wp2_with fail
            go_ret
            exact ⟨ret_bool hne.out.symm, n', hn'⟩
        subst e3
        by_cases e4 : p4 = r4
        case neg =>
          ·
            have hb : (p4 != r4) = true := bne_iff_ne.2 e4
            have hne : Hid (decide (xs.map (·.c) = ys.map (·.c)) = false) := Lib.hid (decide_eq_false (NE.out (fun h => e4 (by injection h))))
            clear e4 NE PV GL2
            go_wp2_with fail
            try simp only [List.append_eq, List.cons_append, List.nil_append]
            refine wp_region_held_drew (S := fun w' => w'.cell? ⟨b1, o1 + k * 6, none⟩ = some (.int .i64 p0) ∧ w'.cell? ⟨b1, o1 + k * 6 + 1, none⟩ = some (.int .i64 p1) ∧ w'.cell? ⟨b1, o1 + k * 6 + 2, none⟩ = some (.int .i64 p2) ∧ w'.cell? ⟨b1, o1 + k * 6 + 3, none⟩ = some (.int .i64 p3) ∧ w'.cell? ⟨b1, o1 + k * 6 + 4, none⟩ = some (.int .i64 p4) ∧ w'.cell? ⟨b1, o1 + k * 6 + 5, none⟩ = some (.slice A3 n1 c3) ∧ w'.cell? ⟨b2, o2 + k * 6, none⟩ = some (.int .i64 p0) ∧ w'.cell? ⟨b2, o2 + k * 6 + 1, none⟩ = some (.int .i64 p1) ∧ w'.cell? ⟨b2, o2 + k * 6 + 2, none⟩ = some (.int .i64 p2) ∧ w'.cell? ⟨b2, o2 + k * 6 + 3, none⟩ = some (.int .i64 p3) ∧ w'.cell? ⟨b2, o2 + k * 6 + 4, none⟩ = some (.int .i64 r4) ∧ w'.cell? ⟨b2, o2 + k * 6 + 5, none⟩ = some (.slice A4 n2 c4) ∧ ∃ n, w' = w.drewN n) (by kernel_rfl) ⟨x0, x1, x2, x3, x4, x5, y0, y1, y2, y3, y4, y5, n + 1, rfl⟩ (fun hHeld => ?_)
            refine tk 0 rfl (by kernel_rfl) hHeld (fun _ _ _ h => h) (v := ?_) ?_ ?_
            rotate_left 1
            · (intro w hSw; (try dsimp only at hSw); (try simp only [List.getElem_toArray, List.getElem_cons_succ, List.getElem_cons_zero]); go_simp) <;> (with_reducible rfl)
            try simp only [List.getElem_toArray, List.getElem_cons_succ, List.getElem_cons_zero, Act.put, List.setIfInBounds_toArray, List.set_cons_zero, List.set_cons_succ]
            refine tk 1 rfl (by kernel_rfl) hHeld (fun _ _ _ h => h) (v := ?_) ?_ ?_
            rotate_left 1
            · (intro w hSw; (try dsimp only at hSw); (try simp only [List.getElem_toArray, List.getElem_cons_succ, List.getElem_cons_zero]); go_simp) <;> (with_reducible rfl)
            try simp only [List.getElem_toArray, List.getElem_cons_succ, List.getElem_cons_zero, Act.put, List.setIfInBounds_toArray, List.set_cons_zero, List.set_cons_succ]
            refine tk 2 rfl (by kernel_rfl) hHeld (fun _ _ _ h => h) (v := ?_) ?_ ?_
            rotate_left 1
            · (intro w hSw; (try dsimp only at hSw); (try simp only [List.getElem_toArray, List.getElem_cons_succ, List.getElem_cons_zero]); go_simp) <;> (with_reducible rfl)
            try simp only [List.getElem_toArray, List.getElem_cons_succ, List.getElem_cons_zero, Act.put, List.setIfInBounds_toArray, List.set_cons_zero, List.set_cons_succ]
            refine tk 3 rfl (by kernel_rfl) hHeld (fun _ _ _ h => h) (v := ?_) ?_ ?_
            rotate_left 1
            · (intro w hSw; (try dsimp only at hSw); (try simp only [List.getElem_toArray, List.getElem_cons_succ, List.getElem_cons_zero]); go_simp) <;> (with_reducible rfl)
            try simp only [List.getElem_toArray, List.getElem_cons_succ, List.getElem_cons_zero, Act.put, List.setIfInBounds_toArray, List.set_cons_zero, List.set_cons_succ]
            refine tk 4 rfl (by kernel_rfl) hHeld (fun _ _ _ h => h) (v := ?_) ?_ ?_
            rotate_left 1
            · (intro w hSw; (try dsimp only at hSw); (try simp only [List.getElem_toArray, List.getElem_cons_succ, List.getElem_cons_zero]); go_simp) <;> (with_reducible rfl)
            try simp only [List.getElem_toArray, List.getElem_cons_succ, List.getElem_cons_zero, Act.put, List.setIfInBounds_toArray, List.set_cons_zero, List.set_cons_succ]
            refine tk 5 rfl (by kernel_rfl) hHeld (fun _ _ _ h => h) (v := ?_) ?_ ?_
            rotate_left 1
            · (intro w hSw; (try dsimp only at hSw); (try simp only [List.getElem_toArray, List.getElem_cons_succ, List.getElem_cons_zero]); go_simp) <;> (with_reducible rfl)
            try simp only [List.getElem_toArray, List.getElem_cons_succ, List.getElem_cons_zero, Act.put, List.setIfInBounds_toArray, List.set_cons_zero, List.set_cons_succ]
            refine tk 6 rfl (by kernel_rfl) hHeld (fun _ _ _ h => h) (v := ?_) ?_ ?_
            rotate_left 1
            · (intro w hSw; (try dsimp only at hSw); (try simp only [List.getElem_toArray, List.getElem_cons_succ, List.getElem_cons_zero]); go_simp) <;> (with_reducible rfl)
            try simp only [List.getElem_toArray, List.getElem_cons_succ, List.getElem_cons_zero, Act.put, List.setIfInBounds_toArray, List.set_cons_zero, List.set_cons_succ]
            refine tk 7 rfl (by kernel_rfl) hHeld (fun _ _ _ h => h) (v := ?_) ?_ ?_
            rotate_left 1
            · (intro w hSw; (try dsimp only at hSw); (try simp only [List.getElem_toArray, List.getElem_cons_succ, List.getElem_cons_zero]); go_simp) <;> (with_reducible rfl)
            try simp only [List.getElem_toArray, List.getElem_cons_succ, List.getElem_cons_zero, Act.put, List.setIfInBounds_toArray, List.set_cons_zero, List.set_cons_succ]
            refine tk 8 rfl (by kernel_rfl) hHeld (fun _ _ _ h => h) (v := ?_) ?_ ?_
            rotate_left 1
            · (intro w hSw; (try dsimp only at hSw); (try simp only [List.getElem_toArray, List.getElem_cons_succ, List.getElem_cons_zero]); go_simp) <;> (with_reducible rfl)
            try simp only [List.getElem_toArray, List.getElem_cons_succ, List.getElem_cons_zero, Act.put, List.setIfInBounds_toArray, List.set_cons_zero, List.set_cons_succ]
            refine tk 9 rfl (by kernel_rfl) hHeld (fun _ _ _ h => h) (v := ?_) ?_ ?_
            rotate_left 1
            · (intro w hSw; (try dsimp only at hSw); (try simp only [List.getElem_toArray, List.getElem_cons_succ, List.getElem_cons_zero]); go_simp) <;> (with_reducible rfl)
            try simp only [List.getElem_toArray, List.getElem_cons_succ, List.getElem_cons_zero, Act.put, List.setIfInBounds_toArray, List.set_cons_zero, List.set_cons_succ]
            refine tk 10 rfl (by kernel_rfl) hHeld (fun _ _ _ h => h) (v := ?_) ?_ ?_
            rotate_left 1
            · (intro w hSw; (try dsimp only at hSw); (try simp only [List.getElem_toArray, List.getElem_cons_succ, List.getElem_cons_zero]); go_simp) <;> (with_reducible rfl)
            try simp only [List.getElem_toArray, List.getElem_cons_succ, List.getElem_cons_zero, Act.put, List.setIfInBounds_toArray, List.set_cons_zero, List.set_cons_succ]
            refine tk 11 rfl (by kernel_rfl) hHeld (fun _ _ _ h => h) (v := ?_) ?_ ?_
            rotate_left 1
            · (intro w hSw; (try dsimp only at hSw); (try simp only [List.getElem_toArray, List.getElem_cons_succ, List.getElem_cons_zero]); go_simp) <;> (with_reducible rfl)
            try simp only [List.getElem_toArray, List.getElem_cons_succ, List.getElem_cons_zero, Act.put, List.setIfInBounds_toArray, List.set_cons_zero, List.set_cons_succ]
            refine tk 12 rfl (by kernel_rfl) hHeld (fun _ _ _ h => h) (v := ?_) ?_ ?_
            rotate_left 1
            · (intro w hSw; (try dsimp only at hSw); (try simp only [List.getElem_toArray, List.getElem_cons_succ, List.getElem_cons_zero]); go_simp) <;> (with_reducible rfl)
            try simp only [List.getElem_toArray, List.getElem_cons_succ, List.getElem_cons_zero, Act.put, List.setIfInBounds_toArray, List.set_cons_zero, List.set_cons_succ]
            refine tk 13 rfl (by kernel_rfl) hHeld (fun _ _ _ h => h) (v := ?_) ?_ ?_
            rotate_left 1
            · (intro w hSw; (try dsimp only at hSw); (try simp only [List.getElem_toArray, List.getElem_cons_succ, List.getElem_cons_zero]); go_simp) <;> (with_reducible rfl)
            try simp only [List.getElem_toArray, List.getElem_cons_succ, List.getElem_cons_zero, Act.put, List.setIfInBounds_toArray, List.set_cons_zero, List.set_cons_succ]
            refine tk 14 rfl (by kernel_rfl) hHeld (fun _ _ _ h => h) (v := ?_) ?_ ?_
            rotate_left 1
            · (intro w hSw; (try dsimp only at hSw); (try simp only [List.getElem_toArray, List.getElem_cons_succ, List.getElem_cons_zero]); go_simp) <;> (with_reducible rfl)
            try simp only [List.getElem_toArray, List.getElem_cons_succ, List.getElem_cons_zero, Act.put, List.setIfInBounds_toArray, List.set_cons_zero, List.set_cons_succ]
            refine tk 15 rfl (by kernel_rfl) hHeld (fun _ _ _ h => h) (v := ?_) ?_ ?_
            rotate_left 1
            · (intro w hSw; (try dsimp only at hSw); (try simp only [List.getElem_toArray, List.getElem_cons_succ, List.getElem_cons_zero]); go_simp) <;> (with_reducible rfl)
            try simp only [List.getElem_toArray, List.getElem_cons_succ, List.getElem_cons_zero, Act.put, List.setIfInBounds_toArray, List.set_cons_zero, List.set_cons_succ]
            refine tk 16 rfl (by kernel_rfl) hHeld (fun _ _ _ h => h) (v := ?_) ?_ ?_
            rotate_left 1
            · (intro w hSw; (try dsimp only at hSw); (try simp only [List.getElem_toArray, List.getElem_cons_succ, List.getElem_cons_zero]); go_simp) <;> (with_reducible rfl)
            try simp only [List.getElem_toArray, List.getElem_cons_succ, List.getElem_cons_zero, Act.put, List.setIfInBounds_toArray, List.set_cons_zero, List.set_cons_succ]
            refine tk 17 rfl (by kernel_rfl) hHeld (fun _ _ _ h => h) (v := ?_) ?_ ?_
            rotate_left 1
            · (intro w hSw; (try dsimp only at hSw); (try simp only [List.getElem_toArray, List.getElem_cons_succ, List.getElem_cons_zero]); go_simp) <;> (with_reducible rfl)
            try simp only [List.getElem_toArray, List.getElem_cons_succ, List.getElem_cons_zero, Act.put, List.setIfInBounds_toArray, List.set_cons_zero, List.set_cons_succ]
            refine tk 18 rfl (by kernel_rfl) hHeld (fun _ _ _ h => h) (v := ?_) ?_ ?_
            rotate_left 1
            · (intro w hSw; (try dsimp only at hSw); (try simp only [List.getElem_toArray, List.getElem_cons_succ, List.getElem_cons_zero]); go_simp) <;> (with_reducible rfl)
            try simp only [List.getElem_toArray, List.getElem_cons_succ, List.getElem_cons_zero, Act.put, List.setIfInBounds_toArray, List.set_cons_zero, List.set_cons_succ]
            refine tk 19 rfl (by kernel_rfl) hHeld (fun _ _ _ h => h) (v := ?_) ?_ ?_
            rotate_left 1
            · (intro w hSw; (try dsimp only at hSw); (try simp only [List.getElem_toArray, List.getElem_cons_succ, List.getElem_cons_zero]); go_simp) <;> (with_reducible rfl)
            try simp only [List.getElem_toArray, List.getElem_cons_succ, List.getElem_cons_zero, Act.put, List.setIfInBounds_toArray, List.set_cons_zero, List.set_cons_succ]
            refine tk 20 rfl (by kernel_rfl) hHeld (fun _ _ _ h => h) (v := ?_) ?_ ?_
            rotate_left 1
            · (intro w hSw; (try dsimp only at hSw); (try simp only [List.getElem_toArray, List.getElem_cons_succ, List.getElem_cons_zero]); go_simp) <;> (with_reducible rfl)
            try simp only [List.getElem_toArray, List.getElem_cons_succ, List.getElem_cons_zero, Act.put, List.setIfInBounds_toArray, List.set_cons_zero, List.set_cons_succ]
            refine tk 21 rfl (by kernel_rfl) hHeld (fun _ _ _ h => h) (v := ?_) ?_ ?_
            rotate_left 1
            · (intro w hSw; (try dsimp only at hSw); (try simp only [List.getElem_toArray, List.getElem_cons_succ, List.getElem_cons_zero]); go_simp) <;> (with_reducible rfl)
            try simp only [List.getElem_toArray, List.getElem_cons_succ, List.getElem_cons_zero, Act.put, List.setIfInBounds_toArray, List.set_cons_zero, List.set_cons_succ]
            refine tk 22 rfl (by kernel_rfl) hHeld (fun _ _ _ h => h) (v := ?_) ?_ ?_
            rotate_left 1
            · (intro w hSw; (try dsimp only at hSw); (try simp only [List.getElem_toArray, List.getElem_cons_succ, List.getElem_cons_zero]); go_simp) <;> (with_reducible rfl)
            try simp only [List.getElem_toArray, List.getElem_cons_succ, List.getElem_cons_zero, Act.put, List.setIfInBounds_toArray, List.set_cons_zero, List.set_cons_succ]
            refine tk 23 rfl (by kernel_rfl) hHeld (fun _ _ _ h => h) (v := ?_) ?_ ?_
            rotate_left 1
            · (intro w hSw; (try dsimp only at hSw); (try simp only [List.getElem_toArray, List.getElem_cons_succ, List.getElem_cons_zero]); go_simp) <;> (with_reducible rfl)
            try simp only [List.getElem_toArray, List.getElem_cons_succ, List.getElem_cons_zero, Act.put, List.setIfInBounds_toArray, List.set_cons_zero, List.set_cons_succ]
            refine tk 24 rfl (by kernel_rfl) hHeld (fun _ _ _ h => h) (v := ?_) ?_ ?_
            rotate_left 1
            · (intro w hSw; (try dsimp only at hSw); (try simp only [List.getElem_toArray, List.getElem_cons_succ, List.getElem_cons_zero]); go_simp) <;> (with_reducible rfl)
            try simp only [List.getElem_toArray, List.getElem_cons_succ, List.getElem_cons_zero, Act.put, List.setIfInBounds_toArray, List.set_cons_zero, List.set_cons_succ]
            refine tk 25 rfl (by kernel_rfl) hHeld (fun _ _ _ h => h) (v := ?_) ?_ ?_
            rotate_left 1
            · (intro w hSw; (try dsimp only at hSw); (try simp only [List.getElem_toArray, List.getElem_cons_succ, List.getElem_cons_zero]); go_simp) <;> (with_reducible rfl)
            try simp only [List.getElem_toArray, List.getElem_cons_succ, List.getElem_cons_zero, Act.put, List.setIfInBounds_toArray, List.set_cons_zero, List.set_cons_succ]
            refine tk 26 rfl (by kernel_rfl) hHeld (fun _ _ _ h => h) (v := ?_) ?_ ?_
            rotate_left 1
            · (intro w hSw; (try dsimp only at hSw); (try simp only [List.getElem_toArray, List.getElem_cons_succ, List.getElem_cons_zero]); go_simp) <;> (with_reducible rfl)
            try simp only [List.getElem_toArray, List.getElem_cons_succ, List.getElem_cons_zero, Act.put, List.setIfInBounds_toArray, List.set_cons_zero, List.set_cons_succ]
            refine tk 27 rfl (by kernel_rfl) hHeld (fun _ _ _ h => h) (v := ?_) ?_ ?_
            rotate_left 1
            · (intro w hSw; (try dsimp only at hSw); (try simp only [List.getElem_toArray, List.getElem_cons_succ, List.getElem_cons_zero]); go_simp) <;> (with_reducible rfl)
            try simp only [List.getElem_toArray, List.getElem_cons_succ, List.getElem_cons_zero, Act.put, List.setIfInBounds_toArray, List.set_cons_zero, List.set_cons_succ]
            refine tk 28 rfl (by kernel_rfl) hHeld (fun _ _ _ h => h) (v := ?_) ?_ ?_
            rotate_left 1
            · (intro w hSw; (try dsimp only at hSw); (try simp only [List.getElem_toArray, List.getElem_cons_succ, List.getElem_cons_zero]); go_simp) <;> (with_reducible rfl)
            try simp only [List.getElem_toArray, List.getElem_cons_succ, List.getElem_cons_zero, Act.put, List.setIfInBounds_toArray, List.set_cons_zero, List.set_cons_succ]
            refine tk 29 rfl (by kernel_rfl) hHeld (fun _ _ _ h => h) (v := ?_) ?_ ?_
            rotate_left 1
            · (intro w hSw; (try dsimp only at hSw); (try simp only [List.getElem_toArray, List.getElem_cons_succ, List.getElem_cons_zero]); go_simp) <;> (with_reducible rfl)
            try simp only [List.getElem_toArray, List.getElem_cons_succ, List.getElem_cons_zero, Act.put, List.setIfInBounds_toArray, List.set_cons_zero, List.set_cons_succ]
            refine tk 30 rfl (by kernel_rfl) hHeld (fun _ _ _ h => h) (v := ?_) ?_ ?_
            rotate_left 1
            · (intro w hSw; (try dsimp only at hSw); (try simp only [List.getElem_toArray, List.getElem_cons_succ, List.getElem_cons_zero]); go_simp) <;> (with_reducible rfl)
            try simp only [List.getElem_toArray, List.getElem_cons_succ, List.getElem_cons_zero, Act.put, List.setIfInBounds_toArray, List.set_cons_zero, List.set_cons_succ]
            refine tk 31 rfl (by kernel_rfl) hHeld (fun _ _ _ h => h) (v := ?_) ?_ ?_
            rotate_left 1
            · (intro w hSw; (try dsimp only at hSw); (try simp only [List.getElem_toArray, List.getElem_cons_succ, List.getElem_cons_zero]); go_simp) <;> (with_reducible rfl)
            try simp only [List.getElem_toArray, List.getElem_cons_succ, List.getElem_cons_zero, Act.put, List.setIfInBounds_toArray, List.set_cons_zero, List.set_cons_succ]
            refine tk 32 rfl (by kernel_rfl) hHeld (fun _ _ _ h => h) (v := ?_) ?_ ?_
            rotate_left 1
            · (intro w hSw; (try dsimp only at hSw); (try simp only [List.getElem_toArray, List.getElem_cons_succ, List.getElem_cons_zero]); go_simp) <;> (with_reducible rfl)
            try simp only [List.getElem_toArray, List.getElem_cons_succ, List.getElem_cons_zero, Act.put, List.setIfInBounds_toArray, List.set_cons_zero, List.set_cons_succ]
            refine tk 33 rfl (by kernel_rfl) hHeld (fun _ _ _ h => h) (v := ?_) ?_ ?_
            rotate_left 1
            · (intro w hSw; (try dsimp only at hSw); (try simp only [List.getElem_toArray, List.getElem_cons_succ, List.getElem_cons_zero]); go_simp) <;> (with_reducible rfl)
            try simp only [List.getElem_toArray, List.getElem_cons_succ, List.getElem_cons_zero, Act.put, List.setIfInBounds_toArray, List.set_cons_zero, List.set_cons_succ]
            refine tk 34 rfl (by kernel_rfl) hHeld (fun _ _ _ h => h) (v := ?_) ?_ ?_
            rotate_left 1
            · (intro w hSw; (try dsimp only at hSw); (try simp only [List.getElem_toArray, List.getElem_cons_succ, List.getElem_cons_zero]); go_simp) <;> (with_reducible rfl)
            try simp only [List.getElem_toArray, List.getElem_cons_succ, List.getElem_cons_zero, Act.put, List.setIfInBounds_toArray, List.set_cons_zero, List.set_cons_succ]
            refine tk 35 rfl (by kernel_rfl) hHeld (fun _ _ _ h => h) (v := ?_) ?_ ?_
            rotate_left 1
            · (intro w hSw; (try dsimp only at hSw); (try simp only [List.getElem_toArray, List.getElem_cons_succ, List.getElem_cons_zero]); go_simp) <;> (with_reducible rfl)
            try simp only [List.getElem_toArray, List.getElem_cons_succ, List.getElem_cons_zero, Act.put, List.setIfInBounds_toArray, List.set_cons_zero, List.set_cons_succ]
            refine tk 36 rfl (by kernel_rfl) hHeld (fun _ _ _ h => h) (v := ?_) ?_ ?_
            rotate_left 1
            · (intro w hSw; (try dsimp only at hSw); (try simp only [List.getElem_toArray, List.getElem_cons_succ, List.getElem_cons_zero]); go_simp) <;> (with_reducible rfl)
            try simp only [List.getElem_toArray, List.getElem_cons_succ, List.getElem_cons_zero, Act.put, List.setIfInBounds_toArray, List.set_cons_zero, List.set_cons_succ]
            refine tk 37 rfl (by kernel_rfl) hHeld (fun _ _ _ h => h) (v := ?_) ?_ ?_
            rotate_left 1
            · (intro w hSw; (try dsimp only at hSw); (try simp only [List.getElem_toArray, List.getElem_cons_succ, List.getElem_cons_zero]); go_simp) <;> (with_reducible rfl)
            try simp only [List.getElem_toArray, List.getElem_cons_succ, List.getElem_cons_zero, Act.put, List.setIfInBounds_toArray, List.set_cons_zero, List.set_cons_succ]
            refine tk 38 rfl (by kernel_rfl) hHeld (fun _ _ _ h => h) (v := ?_) ?_ ?_
            rotate_left 1
            · (intro w hSw; (try dsimp only at hSw); (try simp only [List.getElem_toArray, List.getElem_cons_succ, List.getElem_cons_zero]); go_simp) <;> (with_reducible rfl)
            try simp only [List.getElem_toArray, List.getElem_cons_succ, List.getElem_cons_zero, Act.put, List.setIfInBounds_toArray, List.set_cons_zero, List.set_cons_succ]
            refine tk 39 rfl (by kernel_rfl) hHeld (fun _ _ _ h => h) (v := ?_) ?_ ?_
            rotate_left 1
            · (intro w hSw; (try dsimp only at hSw); (try simp only [List.getElem_toArray, List.getElem_cons_succ, List.getElem_cons_zero]); go_simp) <;> (with_reducible rfl)
            try simp only [List.getElem_toArray, List.getElem_cons_succ, List.getElem_cons_zero, Act.put, List.setIfInBounds_toArray, List.set_cons_zero, List.set_cons_succ]
            refine tk 40 rfl (by kernel_rfl) hHeld (fun _ _ _ h => h) (v := ?_) ?_ ?_
            rotate_left 1
            · (intro w hSw; (try dsimp only at hSw); (try simp only [List.getElem_toArray, List.getElem_cons_succ, List.getElem_cons_zero]); go_simp) <;> (with_reducible rfl)
            try simp only [List.getElem_toArray, List.getElem_cons_succ, List.getElem_cons_zero, Act.put, List.setIfInBounds_toArray, List.set_cons_zero, List.set_cons_succ]
            refine tk 41 rfl (by kernel_rfl) hHeld (fun _ _ _ h => h) (v := ?_) ?_ ?_
            rotate_left 1
            · (intro w hSw; (try dsimp only at hSw); (try simp only [List.getElem_toArray, List.getElem_cons_succ, List.getElem_cons_zero]); go_simp) <;> (with_reducible rfl)
            try simp only [List.getElem_toArray, List.getElem_cons_succ, List.getElem_cons_zero, Act.put, List.setIfInBounds_toArray, List.set_cons_zero, List.set_cons_succ]
            refine tk 42 rfl (by kernel_rfl) hHeld (fun _ _ _ h => h) (v := ?_) ?_ ?_
            rotate_left 1
            · (intro w hSw; (try dsimp only at hSw); (try simp only [List.getElem_toArray, List.getElem_cons_succ, List.getElem_cons_zero]); go_simp) <;> (with_reducible rfl)
            try simp only [List.getElem_toArray, List.getElem_cons_succ, List.getElem_cons_zero, Act.put, List.setIfInBounds_toArray, List.set_cons_zero, List.set_cons_succ]
            refine tk 43 rfl (by kernel_rfl) hHeld (fun _ _ _ h => h) (v := ?_) ?_ ?_
            rotate_left 1
            · (intro w hSw; (try dsimp only at hSw); (try simp only [List.getElem_toArray, List.getElem_cons_succ, List.getElem_cons_zero]); go_simp) <;> (with_reducible rfl)
            try simp only [List.getElem_toArray, List.getElem_cons_succ, List.getElem_cons_zero, Act.put, List.setIfInBounds_toArray, List.set_cons_zero, List.set_cons_succ]
            refine tk 44 rfl (by kernel_rfl) hHeld (fun _ _ _ h => h) (v := ?_) ?_ ?_
            rotate_left 1
            · (intro w hSw; (try dsimp only at hSw); (try simp only [List.getElem_toArray, List.getElem_cons_succ, List.getElem_cons_zero]); go_simp) <;> (with_reducible rfl)
            try simp only [List.getElem_toArray, List.getElem_cons_succ, List.getElem_cons_zero, Act.put, List.setIfInBounds_toArray, List.set_cons_zero, List.set_cons_succ]
            refine tk 45 rfl (by kernel_rfl) hHeld (fun _ _ _ h => h) (v := ?_) ?_ ?_
            rotate_left 1
            · (intro w hSw; (try dsimp only at hSw); (try simp only [List.getElem_toArray, List.getElem_cons_succ, List.getElem_cons_zero]); go_simp) <;> (with_reducible rfl)
            try simp only [List.getElem_toArray, List.getElem_cons_succ, List.getElem_cons_zero, Act.put, List.setIfInBounds_toArray, List.set_cons_zero, List.set_cons_succ]
            refine tk 46 rfl (by kernel_rfl) hHeld (fun _ _ _ h => h) (v := ?_) ?_ ?_
            rotate_left 1
            · (intro w hSw; (try dsimp only at hSw); (try simp only [List.getElem_toArray, List.getElem_cons_succ, List.getElem_cons_zero]); go_simp) <;> (with_reducible rfl)
            try simp only [List.getElem_toArray, List.getElem_cons_succ, List.getElem_cons_zero, Act.put, List.setIfInBounds_toArray, List.set_cons_zero, List.set_cons_succ]
            refine tk 47 rfl (by kernel_rfl) hHeld (fun _ _ _ h => h) (v := ?_) ?_ ?_
            rotate_left 1
            · (intro w hSw; (try dsimp only at hSw); (try simp only [List.getElem_toArray, List.getElem_cons_succ, List.getElem_cons_zero]); go_simp) <;> (with_reducible rfl)
            try simp only [List.getElem_toArray, List.getElem_cons_succ, List.getElem_cons_zero, Act.put, List.setIfInBounds_toArray, List.set_cons_zero, List.set_cons_succ]
            refine tk 48 rfl (by kernel_rfl) hHeld (fun _ _ _ h => h) (v := ?_) ?_ ?_
            rotate_left 1
            · (intro w hSw; (try dsimp only at hSw); (try simp only [List.getElem_toArray, List.getElem_cons_succ, List.getElem_cons_zero]); go_simp) <;> (with_reducible rfl)
            try simp only [List.getElem_toArray, List.getElem_cons_succ, List.getElem_cons_zero, Act.put, List.setIfInBounds_toArray, List.set_cons_zero, List.set_cons_succ]
            refine tk 49 rfl (by kernel_rfl) hHeld (fun _ _ _ h => h) (v := ?_) ?_ ?_
            rotate_left 1
            · (intro w hSw; (try dsimp only at hSw); (try simp only [List.getElem_toArray, List.getElem_cons_succ, List.getElem_cons_zero]); go_simp) <;> (with_reducible rfl)
            try simp only [List.getElem_toArray, List.getElem_cons_succ, List.getElem_cons_zero, Act.put, List.setIfInBounds_toArray, List.set_cons_zero, List.set_cons_succ]
            refine tk 50 rfl (by kernel_rfl) hHeld (fun _ _ _ h => h) (v := ?_) ?_ ?_
            rotate_left 1
            · (intro w hSw; (try dsimp only at hSw); (try simp only [List.getElem_toArray, List.getElem_cons_succ, List.getElem_cons_zero]); go_simp) <;> (with_reducible rfl)
            try simp only [List.getElem_toArray, List.getElem_cons_succ, List.getElem_cons_zero, Act.put, List.setIfInBounds_toArray, List.set_cons_zero, List.set_cons_succ]
            refine tk 51 rfl (by kernel_rfl) hHeld (fun _ _ _ h => h) (v := ?_) ?_ ?_
            rotate_left 1
            · (intro w hSw; (try dsimp only at hSw); (try simp only [List.getElem_toArray, List.getElem_cons_succ, List.getElem_cons_zero]); go_simp) <;> (with_reducible rfl)
            try simp only [List.getElem_toArray, List.getElem_cons_succ, List.getElem_cons_zero, Act.put, List.setIfInBounds_toArray, List.set_cons_zero, List.set_cons_succ]
            refine tk 52 rfl (by kernel_rfl) hHeld (fun _ _ _ h => h) (v := ?_) ?_ ?_
            rotate_left 1
            · (intro w hSw; (try dsimp only at hSw); (try simp only [List.getElem_toArray, List.getElem_cons_succ, List.getElem_cons_zero]); go_simp) <;> (with_reducible rfl)
            try simp only [List.getElem_toArray, List.getElem_cons_succ, List.getElem_cons_zero, Act.put, List.setIfInBounds_toArray, List.set_cons_zero, List.set_cons_succ]
            refine tk 53 rfl (by kernel_rfl) hHeld (fun _ _ _ h => h) (v := ?_) ?_ ?_
            rotate_left 1
            · (intro w hSw; (try dsimp only at hSw); (try simp only [List.getElem_toArray, List.getElem_cons_succ, List.getElem_cons_zero]); go_simp) <;> (with_reducible rfl)
            try simp only [List.getElem_toArray, List.getElem_cons_succ, List.getElem_cons_zero, Act.put, List.setIfInBounds_toArray, List.set_cons_zero, List.set_cons_succ]
            refine tk 54 rfl (by kernel_rfl) hHeld (fun _ _ _ h => h) (v := ?_) ?_ ?_
            rotate_left 1
            · (intro w hSw; (try dsimp only at hSw); (try simp only [List.getElem_toArray, List.getElem_cons_succ, List.getElem_cons_zero]); go_simp) <;> (with_reducible rfl)
            try simp only [List.getElem_toArray, List.getElem_cons_succ, List.getElem_cons_zero, Act.put, List.setIfInBounds_toArray, List.set_cons_zero, List.set_cons_succ]
            refine tk 55 rfl (by kernel_rfl) hHeld (fun _ _ _ h => h) (v := ?_) ?_ ?_
            rotate_left 1
            · (intro w hSw; (try dsimp only at hSw); (try simp only [List.getElem_toArray, List.getElem_cons_succ, List.getElem_cons_zero]); go_simp) <;> (with_reducible rfl)
            try simp only [List.getElem_toArray, List.getElem_cons_succ, List.getElem_cons_zero, Act.put, List.setIfInBounds_toArray, List.set_cons_zero, List.set_cons_succ]
            refine tk 56 rfl (by kernel_rfl) hHeld (fun _ _ _ h => h) (v := ?_) ?_ ?_
            rotate_left 1
            · (intro w hSw; (try dsimp only at hSw); (try simp only [List.getElem_toArray, List.getElem_cons_succ, List.getElem_cons_zero]); go_simp) <;> (with_reducible rfl)
            try simp only [List.getElem_toArray, List.getElem_cons_succ, List.getElem_cons_zero, Act.put, List.setIfInBounds_toArray, List.set_cons_zero, List.set_cons_succ]
            refine tk 57 rfl (by kernel_rfl) hHeld (fun _ _ _ h => h) (v := ?_) ?_ ?_
            rotate_left 1
            · (intro w hSw; (try dsimp only at hSw); (try simp only [List.getElem_toArray, List.getElem_cons_succ, List.getElem_cons_zero]); go_simp) <;> (with_reducible rfl)
            try simp only [List.getElem_toArray, List.getElem_cons_succ, List.getElem_cons_zero, Act.put, List.setIfInBounds_toArray, List.set_cons_zero, List.set_cons_succ]
            refine tk 58 rfl (by kernel_rfl) hHeld (fun _ _ _ h => h) (v := ?_) ?_ ?_
            rotate_left 1
            · (intro w hSw; (try dsimp only at hSw); (try simp only [List.getElem_toArray, List.getElem_cons_succ, List.getElem_cons_zero]); go_simp) <;> (with_reducible rfl)
            try simp only [List.getElem_toArray, List.getElem_cons_succ, List.getElem_cons_zero, Act.put, List.setIfInBounds_toArray, List.set_cons_zero, List.set_cons_succ]
            refine tk 59 rfl (by kernel_rfl) hHeld (fun _ _ _ h => h) (v := ?_) ?_ ?_
            rotate_left 1
            · (intro w hSw; (try dsimp only at hSw); (try simp only [List.getElem_toArray, List.getElem_cons_succ, List.getElem_cons_zero]); go_simp) <;> (with_reducible rfl)
            try simp only [List.getElem_toArray, List.getElem_cons_succ, List.getElem_cons_zero, Act.put, List.setIfInBounds_toArray, List.set_cons_zero, List.set_cons_succ]
            refine tk 60 rfl (by kernel_rfl) hHeld (fun _ _ _ h => h) (v := ?_) ?_ ?_
            rotate_left 1
            · (intro w hSw; (try dsimp only at hSw); (try simp only [List.getElem_toArray, List.getElem_cons_succ, List.getElem_cons_zero]); go_simp) <;> (with_reducible rfl)
            try simp only [List.getElem_toArray, List.getElem_cons_succ, List.getElem_cons_zero, Act.put, List.setIfInBounds_toArray, List.set_cons_zero, List.set_cons_succ]
            refine tk 61 rfl (by kernel_rfl) hHeld (fun _ _ _ h => h) (v := ?_) ?_ ?_
            rotate_left 1
            · (intro w hSw; (try dsimp only at hSw); (try simp only [List.getElem_toArray, List.getElem_cons_succ, List.getElem_cons_zero]); go_simp) <;> (with_reducible rfl)
            try simp only [List.getElem_toArray, List.getElem_cons_succ, List.getElem_cons_zero, Act.put, List.setIfInBounds_toArray, List.set_cons_zero, List.set_cons_succ]
            refine tk 62 rfl (by kernel_rfl) hHeld (fun _ _ _ h => h) (v := ?_) ?_ ?_
            rotate_left 1
            · (intro w hSw; (try dsimp only at hSw); (try simp only [List.getElem_toArray, List.getElem_cons_succ, List.getElem_cons_zero]); go_simp) <;> (with_reducible rfl)
            try simp only [List.getElem_toArray, List.getElem_cons_succ, List.getElem_cons_zero, Act.put, List.setIfInBounds_toArray, List.set_cons_zero, List.set_cons_succ]
            refine tk 63 rfl (by kernel_rfl) hHeld (fun _ _ _ h => h) (v := ?_) ?_ ?_
            rotate_left 1
            · (intro w hSw; (try dsimp only at hSw); (try simp only [List.getElem_toArray, List.getElem_cons_succ, List.getElem_cons_zero]); go_simp) <;> (with_reducible rfl)
            try simp only [List.getElem_toArray, List.getElem_cons_succ, List.getElem_cons_zero, Act.put, List.setIfInBounds_toArray, List.set_cons_zero, List.set_cons_succ]
            refine sk 64 rfl (by kernel_rfl) hHeld (fun _ _ _ h => h) ?_
            try simp only [List.getElem_toArray, List.getElem_cons_succ, List.getElem_cons_zero, Act.put, List.setIfInBounds_toArray, List.set_cons_zero, List.set_cons_succ]
            refine sk 65 rfl (by kernel_rfl) hHeld (fun _ _ _ h => h) ?_
            try simp only [List.getElem_toArray, List.getElem_cons_succ, List.getElem_cons_zero, Act.put, List.setIfInBounds_toArray, List.set_cons_zero, List.set_cons_succ]
            refine sk 66 rfl (by kernel_rfl) hHeld (fun _ _ _ h => h) ?_
            try simp only [List.getElem_toArray, List.getElem_cons_succ, List.getElem_cons_zero, Act.put, List.setIfInBounds_toArray, List.set_cons_zero, List.set_cons_succ]
            refine sk 67 rfl (by kernel_rfl) hHeld (fun _ _ _ h => h) ?_
            try simp only [List.getElem_toArray, List.getElem_cons_succ, List.getElem_cons_zero, Act.put, List.setIfInBounds_toArray, List.set_cons_zero, List.set_cons_succ]
            refine sk 68 rfl (by kernel_rfl) hHeld (fun _ _ _ h => h) ?_
            try simp only [List.getElem_toArray, List.getElem_cons_succ, List.getElem_cons_zero, Act.put, List.setIfInBounds_toArray, List.set_cons_zero, List.set_cons_succ]
            refine sk 69 rfl (by kernel_rfl) hHeld (fun _ _ _ h => h) ?_
            try simp only [List.getElem_toArray, List.getElem_cons_succ, List.getElem_cons_zero, Act.put, List.setIfInBounds_toArray, List.set_cons_zero, List.set_cons_succ]
            refine sk 70 rfl (by kernel_rfl) hHeld (fun _ _ _ h => h) ?_
            try simp only [List.getElem_toArray, List.getElem_cons_succ, List.getElem_cons_zero, Act.put, List.setIfInBounds_toArray, List.set_cons_zero, List.set_cons_succ]
            refine sk 71 rfl (by kernel_rfl) hHeld (fun _ _ _ h => h) ?_
            try simp only [List.getElem_toArray, List.getElem_cons_succ, List.getElem_cons_zero, Act.put, List.setIfInBounds_toArray, List.set_cons_zero, List.set_cons_succ]
            refine sk 72 rfl (by kernel_rfl) hHeld (fun _ _ _ h => h) ?_
            try simp only [List.getElem_toArray, List.getElem_cons_succ, List.getElem_cons_zero, Act.put, List.setIfInBounds_toArray, List.set_cons_zero, List.set_cons_succ]
            refine sk 73 rfl (by kernel_rfl) hHeld (fun _ _ _ h => h) ?_
            try simp only [List.getElem_toArray, List.getElem_cons_succ, List.getElem_cons_zero, Act.put, List.setIfInBounds_toArray, List.set_cons_zero, List.set_cons_succ]
            refine sk 74 rfl (by kernel_rfl) hHeld (fun _ _ _ h => h) ?_
            try simp only [List.getElem_toArray, List.getElem_cons_succ, List.getElem_cons_zero, Act.put, List.setIfInBounds_toArray, List.set_cons_zero, List.set_cons_succ]
            refine sk 75 rfl (by kernel_rfl) hHeld (fun _ _ _ h => h) ?_
            try simp only [List.getElem_toArray, List.getElem_cons_succ, List.getElem_cons_zero, Act.put, List.setIfInBounds_toArray, List.set_cons_zero, List.set_cons_succ]
            refine tk 76 rfl (by kernel_rfl) hHeld (fun _ _ _ h => h) (v := ?_) ?_ ?_
            rotate_left 1
            · (intro w hSw; (try dsimp only at hSw); (try simp only [List.getElem_toArray, List.getElem_cons_succ, List.getElem_cons_zero]); go_simp) <;> (with_reducible rfl)
            try simp only [List.getElem_toArray, List.getElem_cons_succ, List.getElem_cons_zero, Act.put, List.setIfInBounds_toArray, List.set_cons_zero, List.set_cons_succ]
            refine wpAnyH_done (by kernel_rfl) ?_ _
            obtain ⟨n', hn'⟩ := hHeld.2.2.2.2.2.2.2.2.2.2.2.2
            go_wp2_with fail
            go_ret
            exact ⟨ret_bool hne.out.symm, n', hn'⟩
        subst e4
        have GL : Hid (∀ w1 : World, (∃ m, w1 = w.drewN m) → Calls Try.prog 18 #[.slice A3 n1 c3, .slice A4 n2 c4] w1 fun e w' => e = .returned (.bool (decide (g1 = g2))) ∧ ∃ n, w' = w1.drewN n) := Lib.hid (by rintro _ ⟨m, rfl⟩; exact GL2.out m)
        clear GL2
        by_cases e5 : g1 = g2
        ·
            have hp2 := Lib.hid (PV.out (by rw [e5]))
            simp only [decide_eq_true e5] at GL
            clear e5 NE PV
            go_wp2_with fail
            try simp only [List.append_eq, List.cons_append, List.nil_append]
            refine wp_region_held_drew (S := fun w' => w'.cell? ⟨b1, o1 + k * 6, none⟩ = some (.int .i64 p0) ∧ w'.cell? ⟨b1, o1 + k * 6 + 1, none⟩ = some (.int .i64 p1) ∧ w'.cell? ⟨b1, o1 + k * 6 + 2, none⟩ = some (.int .i64 p2) ∧ w'.cell? ⟨b1, o1 + k * 6 + 3, none⟩ = some (.int .i64 p3) ∧ w'.cell? ⟨b1, o1 + k * 6 + 4, none⟩ = some (.int .i64 p4) ∧ w'.cell? ⟨b1, o1 + k * 6 + 5, none⟩ = some (.slice A3 n1 c3) ∧ w'.cell? ⟨b2, o2 + k * 6, none⟩ = some (.int .i64 p0) ∧ w'.cell? ⟨b2, o2 + k * 6 + 1, none⟩ = some (.int .i64 p1) ∧ w'.cell? ⟨b2, o2 + k * 6 + 2, none⟩ = some (.int .i64 p2) ∧ w'.cell? ⟨b2, o2 + k * 6 + 3, none⟩ = some (.int .i64 p3) ∧ w'.cell? ⟨b2, o2 + k * 6 + 4, none⟩ = some (.int .i64 p4) ∧ w'.cell? ⟨b2, o2 + k * 6 + 5, none⟩ = some (.slice A4 n2 c4) ∧ ∃ n, w' = w.drewN n) (by kernel_rfl) ⟨x0, x1, x2, x3, x4, x5, y0, y1, y2, y3, y4, y5, n + 1, rfl⟩ (fun hHeld => ?_)
            obtain ⟨wd, hwd⟩ : ∃ wd, (w.drewN n).drew = wd := ⟨_, rfl⟩
            rw [hwd] at hHeld ⊢
            clear hwd
            refine tk 0 rfl (by kernel_rfl) hHeld (fun _ _ _ h => h) (v := ?_) ?_ ?_
            rotate_left 1
            · (intro w hSw; (try dsimp only at hSw); (try simp only [List.getElem_toArray, List.getElem_cons_succ, List.getElem_cons_zero]); go_simp) <;> (with_reducible rfl)
            try simp only [List.getElem_toArray, List.getElem_cons_succ, List.getElem_cons_zero, Act.put, List.setIfInBounds_toArray, List.set_cons_zero, List.set_cons_succ]
            refine tk 1 rfl (by kernel_rfl) hHeld (fun _ _ _ h => h) (v := ?_) ?_ ?_
            rotate_left 1
            · (intro w hSw; (try dsimp only at hSw); (try simp only [List.getElem_toArray, List.getElem_cons_succ, List.getElem_cons_zero]); go_simp) <;> (with_reducible rfl)
            try simp only [List.getElem_toArray, List.getElem_cons_succ, List.getElem_cons_zero, Act.put, List.setIfInBounds_toArray, List.set_cons_zero, List.set_cons_succ]
            refine tk 2 rfl (by kernel_rfl) hHeld (fun _ _ _ h => h) (v := ?_) ?_ ?_
            rotate_left 1
            · (intro w hSw; (try dsimp only at hSw); (try simp only [List.getElem_toArray, List.getElem_cons_succ, List.getElem_cons_zero]); go_simp) <;> (with_reducible rfl)
            try simp only [List.getElem_toArray, List.getElem_cons_succ, List.getElem_cons_zero, Act.put, List.setIfInBounds_toArray, List.set_cons_zero, List.set_cons_succ]
            refine tk 3 rfl (by kernel_rfl) hHeld (fun _ _ _ h => h) (v := ?_) ?_ ?_
            rotate_left 1
            · (intro w hSw; (try dsimp only at hSw); (try simp only [List.getElem_toArray, List.getElem_cons_succ, List.getElem_cons_zero]); go_simp) <;> (with_reducible rfl)
            try simp only [List.getElem_toArray, List.getElem_cons_succ, List.getElem_cons_zero, Act.put, List.setIfInBounds_toArray, List.set_cons_zero, List.set_cons_succ]
            refine tk 4 rfl (by kernel_rfl) hHeld (fun _ _ _ h => h) (v := ?_) ?_ ?_
            rotate_left 1
            · (intro w hSw; (try dsimp only at hSw); (try simp only [List.getElem_toArray, List.getElem_cons_succ, List.getElem_cons_zero]); go_simp) <;> (with_reducible rfl)
            try simp only [List.getElem_toArray, List.getElem_cons_succ, List.getElem_cons_zero, Act.put, List.setIfInBounds_toArray, List.set_cons_zero, List.set_cons_succ]
            refine tk 5 rfl (by kernel_rfl) hHeld (fun _ _ _ h => h) (v := ?_) ?_ ?_
            rotate_left 1
            · (intro w hSw; (try dsimp only at hSw); (try simp only [List.getElem_toArray, List.getElem_cons_succ, List.getElem_cons_zero]); go_simp) <;> (with_reducible rfl)
            try simp only [List.getElem_toArray, List.getElem_cons_succ, List.getElem_cons_zero, Act.put, List.setIfInBounds_toArray, List.set_cons_zero, List.set_cons_succ]
            refine tk 6 rfl (by kernel_rfl) hHeld (fun _ _ _ h => h) (v := ?_) ?_ ?_
            rotate_left 1
            · (intro w hSw; (try dsimp only at hSw); (try simp only [List.getElem_toArray, List.getElem_cons_succ, List.getElem_cons_zero]); go_simp) <;> (with_reducible rfl)
            try simp only [List.getElem_toArray, List.getElem_cons_succ, List.getElem_cons_zero, Act.put, List.setIfInBounds_toArray, List.set_cons_zero, List.set_cons_succ]
            refine tk 7 rfl (by kernel_rfl) hHeld (fun _ _ _ h => h) (v := ?_) ?_ ?_
            rotate_left 1
            · (intro w hSw; (try dsimp only at hSw); (try simp only [List.getElem_toArray, List.getElem_cons_succ, List.getElem_cons_zero]); go_simp) <;> (with_reducible rfl)
            try simp only [List.getElem_toArray, List.getElem_cons_succ, List.getElem_cons_zero, Act.put, List.setIfInBounds_toArray, List.set_cons_zero, List.set_cons_succ]
            refine tk 8 rfl (by kernel_rfl) hHeld (fun _ _ _ h => h) (v := ?_) ?_ ?_
            rotate_left 1
            · (intro w hSw; (try dsimp only at hSw); (try simp only [List.getElem_toArray, List.getElem_cons_succ, List.getElem_cons_zero]); go_simp) <;> (with_reducible rfl)
            try simp only [List.getElem_toArray, List.getElem_cons_succ, List.getElem_cons_zero, Act.put, List.setIfInBounds_toArray, List.set_cons_zero, List.set_cons_succ]
            refine tk 9 rfl (by kernel_rfl) hHeld (fun _ _ _ h => h) (v := ?_) ?_ ?_
            rotate_left 1
            · (intro w hSw; (try dsimp only at hSw); (try simp only [List.getElem_toArray, List.getElem_cons_succ, List.getElem_cons_zero]); go_simp) <;> (with_reducible rfl)
            try simp only [List.getElem_toArray, List.getElem_cons_succ, List.getElem_cons_zero, Act.put, List.setIfInBounds_toArray, List.set_cons_zero, List.set_cons_succ]
            refine tk 10 rfl (by kernel_rfl) hHeld (fun _ _ _ h => h) (v := ?_) ?_ ?_
            rotate_left 1
            · (intro w hSw; (try dsimp only at hSw); (try simp only [List.getElem_toArray, List.getElem_cons_succ, List.getElem_cons_zero]); go_simp) <;> (with_reducible rfl)
            try simp only [List.getElem_toArray, List.getElem_cons_succ, List.getElem_cons_zero, Act.put, List.setIfInBounds_toArray, List.set_cons_zero, List.set_cons_succ]
            refine tk 11 rfl (by kernel_rfl) hHeld (fun _ _ _ h => h) (v := ?_) ?_ ?_
            rotate_left 1
            · (intro w hSw; (try dsimp only at hSw); (try simp only [List.getElem_toArray, List.getElem_cons_succ, List.getElem_cons_zero]); go_simp) <;> (with_reducible rfl)
            try simp only [List.getElem_toArray, List.getElem_cons_succ, List.getElem_cons_zero, Act.put, List.setIfInBounds_toArray, List.set_cons_zero, List.set_cons_succ]
            refine tk 12 rfl (by kernel_rfl) hHeld (fun _ _ _ h => h) (v := ?_) ?_ ?_
            rotate_left 1
            · (intro w hSw; (try dsimp only at hSw); (try simp only [List.getElem_toArray, List.getElem_cons_succ, List.getElem_cons_zero]); go_simp) <;> (with_reducible rfl)
            try simp only [List.getElem_toArray, List.getElem_cons_succ, List.getElem_cons_zero, Act.put, List.setIfInBounds_toArray, List.set_cons_zero, List.set_cons_succ]
            refine tk 13 rfl (by kernel_rfl) hHeld (fun _ _ _ h => h) (v := ?_) ?_ ?_
            rotate_left 1
            · (intro w hSw; (try dsimp only at hSw); (try simp only [List.getElem_toArray, List.getElem_cons_succ, List.getElem_cons_zero]); go_simp) <;> (with_reducible rfl)
            try simp only [List.getElem_toArray, List.getElem_cons_succ, List.getElem_cons_zero, Act.put, List.setIfInBounds_toArray, List.set_cons_zero, List.set_cons_succ]
            refine tk 14 rfl (by kernel_rfl) hHeld (fun _ _ _ h => h) (v := ?_) ?_ ?_
            rotate_left 1
            · (intro w hSw; (try dsimp only at hSw); (try simp only [List.getElem_toArray, List.getElem_cons_succ, List.getElem_cons_zero]); go_simp) <;> (with_reducible rfl)
            try simp only [List.getElem_toArray, List.getElem_cons_succ, List.getElem_cons_zero, Act.put, List.setIfInBounds_toArray, List.set_cons_zero, List.set_cons_succ]
            refine tk 15 rfl (by kernel_rfl) hHeld (fun _ _ _ h => h) (v := ?_) ?_ ?_
            rotate_left 1
            · (intro w hSw; (try dsimp only at hSw); (try simp only [List.getElem_toArray, List.getElem_cons_succ, List.getElem_cons_zero]); go_simp) <;> (with_reducible rfl)
            try simp only [List.getElem_toArray, List.getElem_cons_succ, List.getElem_cons_zero, Act.put, List.setIfInBounds_toArray, List.set_cons_zero, List.set_cons_succ]
            refine tk 16 rfl (by kernel_rfl) hHeld (fun _ _ _ h => h) (v := ?_) ?_ ?_
            rotate_left 1
            · (intro w hSw; (try dsimp only at hSw); (try simp only [List.getElem_toArray, List.getElem_cons_succ, List.getElem_cons_zero]); go_simp) <;> (with_reducible rfl)
            try simp only [List.getElem_toArray, List.getElem_cons_succ, List.getElem_cons_zero, Act.put, List.setIfInBounds_toArray, List.set_cons_zero, List.set_cons_succ]
            refine tk 17 rfl (by kernel_rfl) hHeld (fun _ _ _ h => h) (v := ?_) ?_ ?_
            rotate_left 1
            · (intro w hSw; (try dsimp only at hSw); (try simp only [List.getElem_toArray, List.getElem_cons_succ, List.getElem_cons_zero]); go_simp) <;> (with_reducible rfl)
            try simp only [List.getElem_toArray, List.getElem_cons_succ, List.getElem_cons_zero, Act.put, List.setIfInBounds_toArray, List.set_cons_zero, List.set_cons_succ]
            refine tk 18 rfl (by kernel_rfl) hHeld (fun _ _ _ h => h) (v := ?_) ?_ ?_
            rotate_left 1
            · (intro w hSw; (try dsimp only at hSw); (try simp only [List.getElem_toArray, List.getElem_cons_succ, List.getElem_cons_zero]); go_simp) <;> (with_reducible rfl)
            try simp only [List.getElem_toArray, List.getElem_cons_succ, List.getElem_cons_zero, Act.put, List.setIfInBounds_toArray, List.set_cons_zero, List.set_cons_succ]
            refine tk 19 rfl (by kernel_rfl) hHeld (fun _ _ _ h => h) (v := ?_) ?_ ?_
            rotate_left 1
            · (intro w hSw; (try dsimp only at hSw); (try simp only [List.getElem_toArray, List.getElem_cons_succ, List.getElem_cons_zero]); go_simp) <;> (with_reducible rfl)
            try simp only [List.getElem_toArray, List.getElem_cons_succ, List.getElem_cons_zero, Act.put, List.setIfInBounds_toArray, List.set_cons_zero, List.set_cons_succ]
            refine tk 20 rfl (by kernel_rfl) hHeld (fun _ _ _ h => h) (v := ?_) ?_ ?_
            rotate_left 1
            · (intro w hSw; (try dsimp only at hSw); (try simp only [List.getElem_toArray, List.getElem_cons_succ, List.getElem_cons_zero]); go_simp) <;> (with_reducible rfl)
            try simp only [List.getElem_toArray, List.getElem_cons_succ, List.getElem_cons_zero, Act.put, List.setIfInBounds_toArray, List.set_cons_zero, List.set_cons_succ]
            refine tk 21 rfl (by kernel_rfl) hHeld (fun _ _ _ h => h) (v := ?_) ?_ ?_
            rotate_left 1
            · (intro w hSw; (try dsimp only at hSw); (try simp only [List.getElem_toArray, List.getElem_cons_succ, List.getElem_cons_zero]); go_simp) <;> (with_reducible rfl)
            try simp only [List.getElem_toArray, List.getElem_cons_succ, List.getElem_cons_zero, Act.put, List.setIfInBounds_toArray, List.set_cons_zero, List.set_cons_succ]
            refine tk 22 rfl (by kernel_rfl) hHeld (fun _ _ _ h => h) (v := ?_) ?_ ?_
            rotate_left 1
            · (intro w hSw; (try dsimp only at hSw); (try simp only [List.getElem_toArray, List.getElem_cons_succ, List.getElem_cons_zero]); go_simp) <;> (with_reducible rfl)
            try simp only [List.getElem_toArray, List.getElem_cons_succ, List.getElem_cons_zero, Act.put, List.setIfInBounds_toArray, List.set_cons_zero, List.set_cons_succ]
            refine tk 23 rfl (by kernel_rfl) hHeld (fun _ _ _ h => h) (v := ?_) ?_ ?_
            rotate_left 1
            · (intro w hSw; (try dsimp only at hSw); (try simp only [List.getElem_toArray, List.getElem_cons_succ, List.getElem_cons_zero]); go_simp) <;> (with_reducible rfl)
            try simp only [List.getElem_toArray, List.getElem_cons_succ, List.getElem_cons_zero, Act.put, List.setIfInBounds_toArray, List.set_cons_zero, List.set_cons_succ]
            refine tk 24 rfl (by kernel_rfl) hHeld (fun _ _ _ h => h) (v := ?_) ?_ ?_
            rotate_left 1
            · (intro w hSw; (try dsimp only at hSw); (try simp only [List.getElem_toArray, List.getElem_cons_succ, List.getElem_cons_zero]); go_simp) <;> (with_reducible rfl)
            try simp only [List.getElem_toArray, List.getElem_cons_succ, List.getElem_cons_zero, Act.put, List.setIfInBounds_toArray, List.set_cons_zero, List.set_cons_succ]
            refine tk 25 rfl (by kernel_rfl) hHeld (fun _ _ _ h => h) (v := ?_) ?_ ?_
            rotate_left 1
            · (intro w hSw; (try dsimp only at hSw); (try simp only [List.getElem_toArray, List.getElem_cons_succ, List.getElem_cons_zero]); go_simp) <;> (with_reducible rfl)
            try simp only [List.getElem_toArray, List.getElem_cons_succ, List.getElem_cons_zero, Act.put, List.setIfInBounds_toArray, List.set_cons_zero, List.set_cons_succ]
            refine tk 26 rfl (by kernel_rfl) hHeld (fun _ _ _ h => h) (v := ?_) ?_ ?_
            rotate_left 1
            · (intro w hSw; (try dsimp only at hSw); (try simp only [List.getElem_toArray, List.getElem_cons_succ, List.getElem_cons_zero]); go_simp) <;> (with_reducible rfl)
            try simp only [List.getElem_toArray, List.getElem_cons_succ, List.getElem_cons_zero, Act.put, List.setIfInBounds_toArray, List.set_cons_zero, List.set_cons_succ]
            refine tk 27 rfl (by kernel_rfl) hHeld (fun _ _ _ h => h) (v := ?_) ?_ ?_
            rotate_left 1
            · (intro w hSw; (try dsimp only at hSw); (try simp only [List.getElem_toArray, List.getElem_cons_succ, List.getElem_cons_zero]); go_simp) <;> (with_reducible rfl)
            try simp only [List.getElem_toArray, List.getElem_cons_succ, List.getElem_cons_zero, Act.put, List.setIfInBounds_toArray, List.set_cons_zero, List.set_cons_succ]
            refine tk 28 rfl (by kernel_rfl) hHeld (fun _ _ _ h => h) (v := ?_) ?_ ?_
            rotate_left 1
            · (intro w hSw; (try dsimp only at hSw); (try simp only [List.getElem_toArray, List.getElem_cons_succ, List.getElem_cons_zero]); go_simp) <;> (with_reducible rfl)
            try simp only [List.getElem_toArray, List.getElem_cons_succ, List.getElem_cons_zero, Act.put, List.setIfInBounds_toArray, List.set_cons_zero, List.set_cons_succ]
            refine tk 29 rfl (by kernel_rfl) hHeld (fun _ _ _ h => h) (v := ?_) ?_ ?_
            rotate_left 1
            · (intro w hSw; (try dsimp only at hSw); (try simp only [List.getElem_toArray, List.getElem_cons_succ, List.getElem_cons_zero]); go_simp) <;> (with_reducible rfl)
            try simp only [List.getElem_toArray, List.getElem_cons_succ, List.getElem_cons_zero, Act.put, List.setIfInBounds_toArray, List.set_cons_zero, List.set_cons_succ]
            refine tk 30 rfl (by kernel_rfl) hHeld (fun _ _ _ h => h) (v := ?_) ?_ ?_
            rotate_left 1
            · (intro w hSw; (try dsimp only at hSw); (try simp only [List.getElem_toArray, List.getElem_cons_succ, List.getElem_cons_zero]); go_simp) <;> (with_reducible rfl)
            try simp only [List.getElem_toArray, List.getElem_cons_succ, List.getElem_cons_zero, Act.put, List.setIfInBounds_toArray, List.set_cons_zero, List.set_cons_succ]
            refine tk 31 rfl (by kernel_rfl) hHeld (fun _ _ _ h => h) (v := ?_) ?_ ?_
            rotate_left 1
            · (intro w hSw; (try dsimp only at hSw); (try simp only [List.getElem_toArray, List.getElem_cons_succ, List.getElem_cons_zero]); go_simp) <;> (with_reducible rfl)
            try simp only [List.getElem_toArray, List.getElem_cons_succ, List.getElem_cons_zero, Act.put, List.setIfInBounds_toArray, List.set_cons_zero, List.set_cons_succ]
            refine tk 32 rfl (by kernel_rfl) hHeld (fun _ _ _ h => h) (v := ?_) ?_ ?_
            rotate_left 1
            · (intro w hSw; (try dsimp only at hSw); (try simp only [List.getElem_toArray, List.getElem_cons_succ, List.getElem_cons_zero]); go_simp) <;> (with_reducible rfl)
            try simp only [List.getElem_toArray, List.getElem_cons_succ, List.getElem_cons_zero, Act.put, List.setIfInBounds_toArray, List.set_cons_zero, List.set_cons_succ]
            refine tk 33 rfl (by kernel_rfl) hHeld (fun _ _ _ h => h) (v := ?_) ?_ ?_
            rotate_left 1
            · (intro w hSw; (try dsimp only at hSw); (try simp only [List.getElem_toArray, List.getElem_cons_succ, List.getElem_cons_zero]); go_simp) <;> (with_reducible rfl)
            try simp only [List.getElem_toArray, List.getElem_cons_succ, List.getElem_cons_zero, Act.put, List.setIfInBounds_toArray, List.set_cons_zero, List.set_cons_succ]
            refine tk 34 rfl (by kernel_rfl) hHeld (fun _ _ _ h => h) (v := ?_) ?_ ?_
            rotate_left 1
            · (intro w hSw; (try dsimp only at hSw); (try simp only [List.getElem_toArray, List.getElem_cons_succ, List.getElem_cons_zero]); go_simp) <;> (with_reducible rfl)
            try simp only [List.getElem_toArray, List.getElem_cons_succ, List.getElem_cons_zero, Act.put, List.setIfInBounds_toArray, List.set_cons_zero, List.set_cons_succ]
            refine tk 35 rfl (by kernel_rfl) hHeld (fun _ _ _ h => h) (v := ?_) ?_ ?_
            rotate_left 1
            · (intro w hSw; (try dsimp only at hSw); (try simp only [List.getElem_toArray, List.getElem_cons_succ, List.getElem_cons_zero]); go_simp) <;> (with_reducible rfl)
            try simp only [List.getElem_toArray, List.getElem_cons_succ, List.getElem_cons_zero, Act.put, List.setIfInBounds_toArray, List.set_cons_zero, List.set_cons_succ]
            refine tk 36 rfl (by kernel_rfl) hHeld (fun _ _ _ h => h) (v := ?_) ?_ ?_
            rotate_left 1
            · (intro w hSw; (try dsimp only at hSw); (try simp only [List.getElem_toArray, List.getElem_cons_succ, List.getElem_cons_zero]); go_simp) <;> (with_reducible rfl)
            try simp only [List.getElem_toArray, List.getElem_cons_succ, List.getElem_cons_zero, Act.put, List.setIfInBounds_toArray, List.set_cons_zero, List.set_cons_succ]
            refine tk 37 rfl (by kernel_rfl) hHeld (fun _ _ _ h => h) (v := ?_) ?_ ?_
            rotate_left 1
            · (intro w hSw; (try dsimp only at hSw); (try simp only [List.getElem_toArray, List.getElem_cons_succ, List.getElem_cons_zero]); go_simp) <;> (with_reducible rfl)
            try simp only [List.getElem_toArray, List.getElem_cons_succ, List.getElem_cons_zero, Act.put, List.setIfInBounds_toArray, List.set_cons_zero, List.set_cons_succ]
            refine tk 38 rfl (by kernel_rfl) hHeld (fun _ _ _ h => h) (v := ?_) ?_ ?_
            rotate_left 1
            · (intro w hSw; (try dsimp only at hSw); (try simp only [List.getElem_toArray, List.getElem_cons_succ, List.getElem_cons_zero]); go_simp) <;> (with_reducible rfl)
            try simp only [List.getElem_toArray, List.getElem_cons_succ, List.getElem_cons_zero, Act.put, List.setIfInBounds_toArray, List.set_cons_zero, List.set_cons_succ]
            refine tk 39 rfl (by kernel_rfl) hHeld (fun _ _ _ h => h) (v := ?_) ?_ ?_
            rotate_left 1
            · (intro w hSw; (try dsimp only at hSw); (try simp only [List.getElem_toArray, List.getElem_cons_succ, List.getElem_cons_zero]); go_simp) <;> (with_reducible rfl)
            try simp only [List.getElem_toArray, List.getElem_cons_succ, List.getElem_cons_zero, Act.put, List.setIfInBounds_toArray, List.set_cons_zero, List.set_cons_succ]
            refine tk 40 rfl (by kernel_rfl) hHeld (fun _ _ _ h => h) (v := ?_) ?_ ?_
            rotate_left 1
            · (intro w hSw; (try dsimp only at hSw); (try simp only [List.getElem_toArray, List.getElem_cons_succ, List.getElem_cons_zero]); go_simp) <;> (with_reducible rfl)
            try simp only [List.getElem_toArray, List.getElem_cons_succ, List.getElem_cons_zero, Act.put, List.setIfInBounds_toArray, List.set_cons_zero, List.set_cons_succ]
            refine tk 41 rfl (by kernel_rfl) hHeld (fun _ _ _ h => h) (v := ?_) ?_ ?_
            rotate_left 1
            · (intro w hSw; (try dsimp only at hSw); (try simp only [List.getElem_toArray, List.getElem_cons_succ, List.getElem_cons_zero]); go_simp) <;> (with_reducible rfl)
            try simp only [List.getElem_toArray, List.getElem_cons_succ, List.getElem_cons_zero, Act.put, List.setIfInBounds_toArray, List.set_cons_zero, List.set_cons_succ]
            refine tk 42 rfl (by kernel_rfl) hHeld (fun _ _ _ h => h) (v := ?_) ?_ ?_
            rotate_left 1
            · (intro w hSw; (try dsimp only at hSw); (try simp only [List.getElem_toArray, List.getElem_cons_succ, List.getElem_cons_zero]); go_simp) <;> (with_reducible rfl)
            try simp only [List.getElem_toArray, List.getElem_cons_succ, List.getElem_cons_zero, Act.put, List.setIfInBounds_toArray, List.set_cons_zero, List.set_cons_succ]
            refine tk 43 rfl (by kernel_rfl) hHeld (fun _ _ _ h => h) (v := ?_) ?_ ?_
            rotate_left 1
            · (intro w hSw; (try dsimp only at hSw); (try simp only [List.getElem_toArray, List.getElem_cons_succ, List.getElem_cons_zero]); go_simp) <;> (with_reducible rfl)
            try simp only [List.getElem_toArray, List.getElem_cons_succ, List.getElem_cons_zero, Act.put, List.setIfInBounds_toArray, List.set_cons_zero, List.set_cons_succ]
            refine tk 44 rfl (by kernel_rfl) hHeld (fun _ _ _ h => h) (v := ?_) ?_ ?_
            rotate_left 1
            · (intro w hSw; (try dsimp only at hSw); (try simp only [List.getElem_toArray, List.getElem_cons_succ, List.getElem_cons_zero]); go_simp) <;> (with_reducible rfl)
            try simp only [List.getElem_toArray, List.getElem_cons_succ, List.getElem_cons_zero, Act.put, List.setIfInBounds_toArray, List.set_cons_zero, List.set_cons_succ]
            refine tk 45 rfl (by kernel_rfl) hHeld (fun _ _ _ h => h) (v := ?_) ?_ ?_
            rotate_left 1
            · (intro w hSw; (try dsimp only at hSw); (try simp only [List.getElem_toArray, List.getElem_cons_succ, List.getElem_cons_zero]); go_simp) <;> (with_reducible rfl)
            try simp only [List.getElem_toArray, List.getElem_cons_succ, List.getElem_cons_zero, Act.put, List.setIfInBounds_toArray, List.set_cons_zero, List.set_cons_succ]
            refine tk 46 rfl (by kernel_rfl) hHeld (fun _ _ _ h => h) (v := ?_) ?_ ?_
            rotate_left 1
            · (intro w hSw; (try dsimp only at hSw); (try simp only [List.getElem_toArray, List.getElem_cons_succ, List.getElem_cons_zero]); go_simp) <;> (with_reducible rfl)
            try simp only [List.getElem_toArray, List.getElem_cons_succ, List.getElem_cons_zero, Act.put, List.setIfInBounds_toArray, List.set_cons_zero, List.set_cons_succ]
            refine tk 47 rfl (by kernel_rfl) hHeld (fun _ _ _ h => h) (v := ?_) ?_ ?_
            rotate_left 1
            · (intro w hSw; (try dsimp only at hSw); (try simp only [List.getElem_toArray, List.getElem_cons_succ, List.getElem_cons_zero]); go_simp) <;> (with_reducible rfl)
            try simp only [List.getElem_toArray, List.getElem_cons_succ, List.getElem_cons_zero, Act.put, List.setIfInBounds_toArray, List.set_cons_zero, List.set_cons_succ]
            refine tk 48 rfl (by kernel_rfl) hHeld (fun _ _ _ h => h) (v := ?_) ?_ ?_
            rotate_left 1
            · (intro w hSw; (try dsimp only at hSw); (try simp only [List.getElem_toArray, List.getElem_cons_succ, List.getElem_cons_zero]); go_simp) <;> (with_reducible rfl)
            try simp only [List.getElem_toArray, List.getElem_cons_succ, List.getElem_cons_zero, Act.put, List.setIfInBounds_toArray, List.set_cons_zero, List.set_cons_succ]
            refine tk 49 rfl (by kernel_rfl) hHeld (fun _ _ _ h => h) (v := ?_) ?_ ?_
            rotate_left 1
            · (intro w hSw; (try dsimp only at hSw); (try simp only [List.getElem_toArray, List.getElem_cons_succ, List.getElem_cons_zero]); go_simp) <;> (with_reducible rfl)
            try simp only [List.getElem_toArray, List.getElem_cons_succ, List.getElem_cons_zero, Act.put, List.setIfInBounds_toArray, List.set_cons_zero, List.set_cons_succ]
            refine tk 50 rfl (by kernel_rfl) hHeld (fun _ _ _ h => h) (v := ?_) ?_ ?_
            rotate_left 1
            · (intro w hSw; (try dsimp only at hSw); (try simp only [List.getElem_toArray, List.getElem_cons_succ, List.getElem_cons_zero]); go_simp) <;> (with_reducible rfl)
            try simp only [List.getElem_toArray, List.getElem_cons_succ, List.getElem_cons_zero, Act.put, List.setIfInBounds_toArray, List.set_cons_zero, List.set_cons_succ]
            refine tk 51 rfl (by kernel_rfl) hHeld (fun _ _ _ h => h) (v := ?_) ?_ ?_
            rotate_left 1
            · (intro w hSw; (try dsimp only at hSw); (try simp only [List.getElem_toArray, List.getElem_cons_succ, List.getElem_cons_zero]); go_simp) <;> (with_reducible rfl)
            try simp only [List.getElem_toArray, List.getElem_cons_succ, List.getElem_cons_zero, Act.put, List.setIfInBounds_toArray, List.set_cons_zero, List.set_cons_succ]
            refine tk 52 rfl (by kernel_rfl) hHeld (fun _ _ _ h => h) (v := ?_) ?_ ?_
            rotate_left 1
            · (intro w hSw; (try dsimp only at hSw); (try simp only [List.getElem_toArray, List.getElem_cons_succ, List.getElem_cons_zero]); go_simp) <;> (with_reducible rfl)
            try simp only [List.getElem_toArray, List.getElem_cons_succ, List.getElem_cons_zero, Act.put, List.setIfInBounds_toArray, List.set_cons_zero, List.set_cons_succ]
            refine tk 53 rfl (by kernel_rfl) hHeld (fun _ _ _ h => h) (v := ?_) ?_ ?_
            rotate_left 1
            · (intro w hSw; (try dsimp only at hSw); (try simp only [List.getElem_toArray, List.getElem_cons_succ, List.getElem_cons_zero]); go_simp) <;> (with_reducible rfl)
            try simp only [List.getElem_toArray, List.getElem_cons_succ, List.getElem_cons_zero, Act.put, List.setIfInBounds_toArray, List.set_cons_zero, List.set_cons_succ]
            refine tk 54 rfl (by kernel_rfl) hHeld (fun _ _ _ h => h) (v := ?_) ?_ ?_
            rotate_left 1
            · (intro w hSw; (try dsimp only at hSw); (try simp only [List.getElem_toArray, List.getElem_cons_succ, List.getElem_cons_zero]); go_simp) <;> (with_reducible rfl)
            try simp only [List.getElem_toArray, List.getElem_cons_succ, List.getElem_cons_zero, Act.put, List.setIfInBounds_toArray, List.set_cons_zero, List.set_cons_succ]
            refine tk 55 rfl (by kernel_rfl) hHeld (fun _ _ _ h => h) (v := ?_) ?_ ?_
            rotate_left 1
            · (intro w hSw; (try dsimp only at hSw); (try simp only [List.getElem_toArray, List.getElem_cons_succ, List.getElem_cons_zero]); go_simp) <;> (with_reducible rfl)
            try simp only [List.getElem_toArray, List.getElem_cons_succ, List.getElem_cons_zero, Act.put, List.setIfInBounds_toArray, List.set_cons_zero, List.set_cons_succ]
            refine tk 56 rfl (by kernel_rfl) hHeld (fun _ _ _ h => h) (v := ?_) ?_ ?_
            rotate_left 1
            · (intro w hSw; (try dsimp only at hSw); (try simp only [List.getElem_toArray, List.getElem_cons_succ, List.getElem_cons_zero]); go_simp) <;> (with_reducible rfl)
            try simp only [List.getElem_toArray, List.getElem_cons_succ, List.getElem_cons_zero, Act.put, List.setIfInBounds_toArray, List.set_cons_zero, List.set_cons_succ]
            refine tk 57 rfl (by kernel_rfl) hHeld (fun _ _ _ h => h) (v := ?_) ?_ ?_
            rotate_left 1
            · (intro w hSw; (try dsimp only at hSw); (try simp only [List.getElem_toArray, List.getElem_cons_succ, List.getElem_cons_zero]); go_simp) <;> (with_reducible rfl)
            try simp only [List.getElem_toArray, List.getElem_cons_succ, List.getElem_cons_zero, Act.put, List.setIfInBounds_toArray, List.set_cons_zero, List.set_cons_succ]
            refine tk 58 rfl (by kernel_rfl) hHeld (fun _ _ _ h => h) (v := ?_) ?_ ?_
            rotate_left 1
            · (intro w hSw; (try dsimp only at hSw); (try simp only [List.getElem_toArray, List.getElem_cons_succ, List.getElem_cons_zero]); go_simp) <;> (with_reducible rfl)
            try simp only [List.getElem_toArray, List.getElem_cons_succ, List.getElem_cons_zero, Act.put, List.setIfInBounds_toArray, List.set_cons_zero, List.set_cons_succ]
            refine tk 59 rfl (by kernel_rfl) hHeld (fun _ _ _ h => h) (v := ?_) ?_ ?_
            rotate_left 1
            · (intro w hSw; (try dsimp only at hSw); (try simp only [List.getElem_toArray, List.getElem_cons_succ, List.getElem_cons_zero]); go_simp) <;> (with_reducible rfl)
            try simp only [List.getElem_toArray, List.getElem_cons_succ, List.getElem_cons_zero, Act.put, List.setIfInBounds_toArray, List.set_cons_zero, List.set_cons_succ]
            refine tk 60 rfl (by kernel_rfl) hHeld (fun _ _ _ h => h) (v := ?_) ?_ ?_
            rotate_left 1
            · (intro w hSw; (try dsimp only at hSw); (try simp only [List.getElem_toArray, List.getElem_cons_succ, List.getElem_cons_zero]); go_simp) <;> (with_reducible rfl)
            try simp only [List.getElem_toArray, List.getElem_cons_succ, List.getElem_cons_zero, Act.put, List.setIfInBounds_toArray, List.set_cons_zero, List.set_cons_succ]
            refine tk 61 rfl (by kernel_rfl) hHeld (fun _ _ _ h => h) (v := ?_) ?_ ?_
            rotate_left 1
            · (intro w hSw; (try dsimp only at hSw); (try simp only [List.getElem_toArray, List.getElem_cons_succ, List.getElem_cons_zero]); go_simp) <;> (with_reducible rfl)
            try simp only [List.getElem_toArray, List.getElem_cons_succ, List.getElem_cons_zero, Act.put, List.setIfInBounds_toArray, List.set_cons_zero, List.set_cons_succ]
            refine tk 62 rfl (by kernel_rfl) hHeld (fun _ _ _ h => h) (v := ?_) ?_ ?_
            rotate_left 1
            · (intro w hSw; (try dsimp only at hSw); (try simp only [List.getElem_toArray, List.getElem_cons_succ, List.getElem_cons_zero]); go_simp) <;> (with_reducible rfl)
            try simp only [List.getElem_toArray, List.getElem_cons_succ, List.getElem_cons_zero, Act.put, List.setIfInBounds_toArray, List.set_cons_zero, List.set_cons_succ]
            refine tk 63 rfl (by kernel_rfl) hHeld (fun _ _ _ h => h) (v := ?_) ?_ ?_
            rotate_left 1
            · (intro w hSw; (try dsimp only at hSw); (try simp only [List.getElem_toArray, List.getElem_cons_succ, List.getElem_cons_zero]); go_simp) <;> (with_reducible rfl)
            try simp only [List.getElem_toArray, List.getElem_cons_succ, List.getElem_cons_zero, Act.put, List.setIfInBounds_toArray, List.set_cons_zero, List.set_cons_succ]
            refine tk 64 rfl (by kernel_rfl) hHeld (fun _ _ _ h => h) (v := ?_) ?_ ?_
            rotate_left 1
            · (intro w hSw; (try dsimp only at hSw); (try simp only [List.getElem_toArray, List.getElem_cons_succ, List.getElem_cons_zero]); go_simp) <;> (with_reducible rfl)
            try simp only [List.getElem_toArray, List.getElem_cons_succ, List.getElem_cons_zero, Act.put, List.setIfInBounds_toArray, List.set_cons_zero, List.set_cons_succ]
            refine tk 65 rfl (by kernel_rfl) hHeld (fun _ _ _ h => h) (v := ?_) ?_ ?_
            rotate_left 1
            · (intro w hSw; (try dsimp only at hSw); (try simp only [List.getElem_toArray, List.getElem_cons_succ, List.getElem_cons_zero]); go_simp) <;> (with_reducible rfl)
            try simp only [List.getElem_toArray, List.getElem_cons_succ, List.getElem_cons_zero, Act.put, List.setIfInBounds_toArray, List.set_cons_zero, List.set_cons_succ]
            refine tk 66 rfl (by kernel_rfl) hHeld (fun _ _ _ h => h) (v := ?_) ?_ ?_
            rotate_left 1
            · (intro w hSw; (try dsimp only at hSw); (try simp only [List.getElem_toArray, List.getElem_cons_succ, List.getElem_cons_zero]); go_simp) <;> (with_reducible rfl)
            try simp only [List.getElem_toArray, List.getElem_cons_succ, List.getElem_cons_zero, Act.put, List.setIfInBounds_toArray, List.set_cons_zero, List.set_cons_succ]
            refine tk 67 rfl (by kernel_rfl) hHeld (fun _ _ _ h => h) (v := ?_) ?_ ?_
            rotate_left 1
            · (intro w hSw; (try dsimp only at hSw); (try simp only [List.getElem_toArray, List.getElem_cons_succ, List.getElem_cons_zero]); go_simp) <;> (with_reducible rfl)
            try simp only [List.getElem_toArray, List.getElem_cons_succ, List.getElem_cons_zero, Act.put, List.setIfInBounds_toArray, List.set_cons_zero, List.set_cons_succ]
            refine tk 68 rfl (by kernel_rfl) hHeld (fun _ _ _ h => h) (v := ?_) ?_ ?_
            rotate_left 1
            · (intro w hSw; (try dsimp only at hSw); (try simp only [List.getElem_toArray, List.getElem_cons_succ, List.getElem_cons_zero]); go_simp) <;> (with_reducible rfl)
            try simp only [List.getElem_toArray, List.getElem_cons_succ, List.getElem_cons_zero, Act.put, List.setIfInBounds_toArray, List.set_cons_zero, List.set_cons_succ]
            refine tk 69 rfl (by kernel_rfl) hHeld (fun _ _ _ h => h) (v := ?_) ?_ ?_
            rotate_left 1
            · (intro w hSw; (try dsimp only at hSw); (try simp only [List.getElem_toArray, List.getElem_cons_succ, List.getElem_cons_zero]); go_simp) <;> (with_reducible rfl)
            try simp only [List.getElem_toArray, List.getElem_cons_succ, List.getElem_cons_zero, Act.put, List.setIfInBounds_toArray, List.set_cons_zero, List.set_cons_succ]
            refine tk 70 rfl (by kernel_rfl) hHeld (fun _ _ _ h => h) (v := ?_) ?_ ?_
            rotate_left 1
            · (intro w hSw; (try dsimp only at hSw); (try simp only [List.getElem_toArray, List.getElem_cons_succ, List.getElem_cons_zero]); go_simp) <;> (with_reducible rfl)
            try simp only [List.getElem_toArray, List.getElem_cons_succ, List.getElem_cons_zero, Act.put, List.setIfInBounds_toArray, List.set_cons_zero, List.set_cons_succ]
            refine tk 71 rfl (by kernel_rfl) hHeld (fun _ _ _ h => h) (v := ?_) ?_ ?_
            rotate_left 1
            · (intro w hSw; (try dsimp only at hSw); (try simp only [List.getElem_toArray, List.getElem_cons_succ, List.getElem_cons_zero]); go_simp) <;> (with_reducible rfl)
            try simp only [List.getElem_toArray, List.getElem_cons_succ, List.getElem_cons_zero, Act.put, List.setIfInBounds_toArray, List.set_cons_zero, List.set_cons_succ]
            refine tk 72 rfl (by kernel_rfl) hHeld (fun _ _ _ h => h) (v := ?_) ?_ ?_
            rotate_left 1
            · (intro w hSw; (try dsimp only at hSw); (try simp only [List.getElem_toArray, List.getElem_cons_succ, List.getElem_cons_zero]); go_simp) <;> (with_reducible rfl)
            try simp only [List.getElem_toArray, List.getElem_cons_succ, List.getElem_cons_zero, Act.put, List.setIfInBounds_toArray, List.set_cons_zero, List.set_cons_succ]
            refine tk 73 rfl (by kernel_rfl) hHeld (fun _ _ _ h => h) (v := ?_) ?_ ?_
            rotate_left 1
            · (intro w hSw; (try dsimp only at hSw); (try simp only [List.getElem_toArray, List.getElem_cons_succ, List.getElem_cons_zero]); go_simp) <;> (with_reducible rfl)
            try simp only [List.getElem_toArray, List.getElem_cons_succ, List.getElem_cons_zero, Act.put, List.setIfInBounds_toArray, List.set_cons_zero, List.set_cons_succ]
            refine wpAnyH_ready (rs := [74]) (by kernel_rfl) (by simp) (AllReadyH.cons rfl (fun K hK => ?_) AllReadyH.nil)
            simp only [List.getElem_toArray, List.getElem_cons_succ, List.getElem_cons_zero]
            go_simp
            go_at_call 18
            refine (GL.out _ hHeld.2.2.2.2.2.2.2.2.2.2.2.2).mono ?_
            rintro e w' ⟨rfl, m, rfl⟩
            try go_wp2_with fail
            refine hK.out _ _ ⟨hHeld.1, hHeld.2.1, hHeld.2.2.1, hHeld.2.2.2.1, hHeld.2.2.2.2.1, hHeld.2.2.2.2.2.1, hHeld.2.2.2.2.2.2.1, hHeld.2.2.2.2.2.2.2.1, hHeld.2.2.2.2.2.2.2.2.1, hHeld.2.2.2.2.2.2.2.2.2.1, hHeld.2.2.2.2.2.2.2.2.2.2.1, hHeld.2.2.2.2.2.2.2.2.2.2.2.1, (let ⟨q, hq⟩ := hHeld.2.2.2.2.2.2.2.2.2.2.2.2; ⟨q + m, by rw [hq]; simp⟩)⟩ (fun hHeld => ?_)
            clear hK K
            try simp only [List.getElem_toArray, List.getElem_cons_succ, List.getElem_cons_zero, Act.put, List.setIfInBounds_toArray, List.set_cons_zero, List.set_cons_succ]
            refine tk 75 rfl (by kernel_rfl) hHeld (fun _ _ _ h => h) (v := ?_) ?_ ?_
            rotate_left 1
            · (intro w hSw; (try dsimp only at hSw); (try simp only [List.getElem_toArray, List.getElem_cons_succ, List.getElem_cons_zero]); go_simp) <;> (with_reducible rfl)
            try simp only [List.getElem_toArray, List.getElem_cons_succ, List.getElem_cons_zero, Act.put, List.setIfInBounds_toArray, List.set_cons_zero, List.set_cons_succ]
            refine tk 76 rfl (by kernel_rfl) hHeld (fun _ _ _ h => h) (v := ?_) ?_ ?_
            rotate_left 1
            · (intro w hSw; (try dsimp only at hSw); (try simp only [List.getElem_toArray, List.getElem_cons_succ, List.getElem_cons_zero]); go_simp) <;> (with_reducible rfl)
            try simp only [List.getElem_toArray, List.getElem_cons_succ, List.getElem_cons_zero, Act.put, List.setIfInBounds_toArray, List.set_cons_zero, List.set_cons_succ]
            refine wpAnyH_done (by kernel_rfl) ?_ _
            obtain ⟨n', hn'⟩ := hHeld.2.2.2.2.2.2.2.2.2.2.2.2
            go_wp2_with fail
            go_roundw
            case rel => exact ⟨k + 1, hlt, by go_num, hp2, n', by first | exact hn' | rfl⟩
            case measure => simp [intOf] <;> omega
        ·
            have hne : Hid (decide (xs.map (·.c) = ys.map (·.c)) = false) := Lib.hid (decide_eq_false (NE.out (fun h => e5 (by injection h))))
            simp only [decide_eq_false e5] at GL
            clear e5 NE PV
            go_wp2_with fail
            try simp only [List.append_eq, List.cons_append, List.nil_append]
            refine wp_region_held_drew (S := fun w' => w'.cell? ⟨b1, o1 + k * 6, none⟩ = some (.int .i64 p0) ∧ w'.cell? ⟨b1, o1 + k * 6 + 1, none⟩ = some (.int .i64 p1) ∧ w'.cell? ⟨b1, o1 + k * 6 + 2, none⟩ = some (.int .i64 p2) ∧ w'.cell? ⟨b1, o1 + k * 6 + 3, none⟩ = some (.int .i64 p3) ∧ w'.cell? ⟨b1, o1 + k * 6 + 4, none⟩ = some (.int .i64 p4) ∧ w'.cell? ⟨b1, o1 + k * 6 + 5, none⟩ = some (.slice A3 n1 c3) ∧ w'.cell? ⟨b2, o2 + k * 6, none⟩ = some (.int .i64 p0) ∧ w'.cell? ⟨b2, o2 + k * 6 + 1, none⟩ = some (.int .i64 p1) ∧ w'.cell? ⟨b2, o2 + k * 6 + 2, none⟩ = some (.int .i64 p2) ∧ w'.cell? ⟨b2, o2 + k * 6 + 3, none⟩ = some (.int .i64 p3) ∧ w'.cell? ⟨b2, o2 + k * 6 + 4, none⟩ = some (.int .i64 p4) ∧ w'.cell? ⟨b2, o2 + k * 6 + 5, none⟩ = some (.slice A4 n2 c4) ∧ ∃ n, w' = w.drewN n) (by kernel_rfl) ⟨x0, x1, x2, x3, x4, x5, y0, y1, y2, y3, y4, y5, n + 1, rfl⟩ (fun hHeld => ?_)
            obtain ⟨wd, hwd⟩ : ∃ wd, (w.drewN n).drew = wd := ⟨_, rfl⟩
            rw [hwd] at hHeld ⊢
            clear hwd
            refine tk 0 rfl (by kernel_rfl) hHeld (fun _ _ _ h => h) (v := ?_) ?_ ?_
            rotate_left 1
            · (intro w hSw; (try dsimp only at hSw); (try simp only [List.getElem_toArray, List.getElem_cons_succ, List.getElem_cons_zero]); go_simp) <;> (with_reducible rfl)
            try simp only [List.getElem_toArray, List.getElem_cons_succ, List.getElem_cons_zero, Act.put, List.setIfInBounds_toArray, List.set_cons_zero, List.set_cons_succ]
            refine tk 1 rfl (by kernel_rfl) hHeld (fun _ _ _ h => h) (v := ?_) ?_ ?_
            rotate_left 1
            · (intro w hSw; (try dsimp only at hSw); (try simp only [List.getElem_toArray, List.getElem_cons_succ, List.getElem_cons_zero]); go_simp) <;> (with_reducible rfl)
            try simp only [List.getElem_toArray, List.getElem_cons_succ, List.getElem_cons_zero, Act.put, List.setIfInBounds_toArray, List.set_cons_zero, List.set_cons_succ]
            refine tk 2 rfl (by kernel_rfl) hHeld (fun _ _ _ h => h) (v := ?_) ?_ ?_
            rotate_left 1
            · (intro w hSw; (try dsimp only at hSw); (try simp only [List.getElem_toArray, List.getElem_cons_succ, List.getElem_cons_zero]); go_simp) <;> (with_reducible rfl)
            try simp only [List.getElem_toArray, List.getElem_cons_succ, List.getElem_cons_zero, Act.put, List.setIfInBounds_toArray, List.set_cons_zero, List.set_cons_succ]
            refine tk 3 rfl (by kernel_rfl) hHeld (fun _ _ _ h => h) (v := ?_) ?_ ?_
            rotate_left 1
            · (intro w hSw; (try dsimp only at hSw); (try simp only [List.getElem_toArray, List.getElem_cons_succ, List.getElem_cons_zero]); go_simp) <;> (with_reducible rfl)
            try simp only [List.getElem_toArray, List.getElem_cons_succ, List.getElem_cons_zero, Act.put, List.setIfInBounds_toArray, List.set_cons_zero, List.set_cons_succ]
            refine tk 4 rfl (by kernel_rfl) hHeld (fun _ _ _ h => h) (v := ?_) ?_ ?_
            rotate_left 1
            · (intro w hSw; (try dsimp only at hSw); (try simp only [List.getElem_toArray, List.getElem_cons_succ, List.getElem_cons_zero]); go_simp) <;> (with_reducible rfl)
            try simp only [List.getElem_toArray, List.getElem_cons_succ, List.getElem_cons_zero, Act.put, List.setIfInBounds_toArray, List.set_cons_zero, List.set_cons_succ]
            refine tk 5 rfl (by kernel_rfl) hHeld (fun _ _ _ h => h) (v := ?_) ?_ ?_
            rotate_left 1
            · (intro w hSw; (try dsimp only at hSw); (try simp only [List.getElem_toArray, List.getElem_cons_succ, List.getElem_cons_zero]); go_simp) <;> (with_reducible rfl)
            try simp only [List.getElem_toArray, List.getElem_cons_succ, List.getElem_cons_zero, Act.put, List.setIfInBounds_toArray, List.set_cons_zero, List.set_cons_succ]
            refine tk 6 rfl (by kernel_rfl) hHeld (fun _ _ _ h => h) (v := ?_) ?_ ?_
            rotate_left 1
            · (intro w hSw; (try dsimp only at hSw); (try simp only [List.getElem_toArray, List.getElem_cons_succ, List.getElem_cons_zero]); go_simp) <;> (with_reducible rfl)
            try simp only [List.getElem_toArray, List.getElem_cons_succ, List.getElem_cons_zero, Act.put, List.setIfInBounds_toArray, List.set_cons_zero, List.set_cons_succ]
            refine tk 7 rfl (by kernel_rfl) hHeld (fun _ _ _ h => h) (v := ?_) ?_ ?_
            rotate_left 1
            · (intro w hSw; (try dsimp only at hSw); (try simp only [List.getElem_toArray, List.getElem_cons_succ, List.getElem_cons_zero]); go_simp) <;> (with_reducible rfl)
            try simp only [List.getElem_toArray, List.getElem_cons_succ, List.getElem_cons_zero, Act.put, List.setIfInBounds_toArray, List.set_cons_zero, List.set_cons_succ]
            refine tk 8 rfl (by kernel_rfl) hHeld (fun _ _ _ h => h) (v := ?_) ?_ ?_
            rotate_left 1
            · (intro w hSw; (try dsimp only at hSw); (try simp only [List.getElem_toArray, List.getElem_cons_succ, List.getElem_cons_zero]); go_simp) <;> (with_reducible rfl)
            try simp only [List.getElem_toArray, List.getElem_cons_succ, List.getElem_cons_zero, Act.put, List.setIfInBounds_toArray, List.set_cons_zero, List.set_cons_succ]
            refine tk 9 rfl (by kernel_rfl) hHeld (fun _ _ _ h => h) (v := ?_) ?_ ?_
            rotate_left 1
            · (intro w hSw; (try dsimp only at hSw); (try simp only [List.getElem_toArray, List.getElem_cons_succ, List.getElem_cons_zero]); go_simp) <;> (with_reducible rfl)
            try simp only [List.getElem_toArray, List.getElem_cons_succ, List.getElem_cons_zero, Act.put, List.setIfInBounds_toArray, List.set_cons_zero, List.set_cons_succ]
            refine tk 10 rfl (by kernel_rfl) hHeld (fun _ _ _ h => h) (v := ?_) ?_ ?_
            rotate_left 1
            · (intro w hSw; (try dsimp only at hSw); (try simp only [List.getElem_toArray, List.getElem_cons_succ, List.getElem_cons_zero]); go_simp) <;> (with_reducible rfl)
            try simp only [List.getElem_toArray, List.getElem_cons_succ, List.getElem_cons_zero, Act.put, List.setIfInBounds_toArray, List.set_cons_zero, List.set_cons_succ]
            refine tk 11 rfl (by kernel_rfl) hHeld (fun _ _ _ h => h) (v := ?_) ?_ ?_
            rotate_left 1
            · (intro w hSw; (try dsimp only at hSw); (try simp only [List.getElem_toArray, List.getElem_cons_succ, List.getElem_cons_zero]); go_simp) <;> (with_reducible rfl)
            try simp only [List.getElem_toArray, List.getElem_cons_succ, List.getElem_cons_zero, Act.put, List.setIfInBounds_toArray, List.set_cons_zero, List.set_cons_succ]
            refine tk 12 rfl (by kernel_rfl) hHeld (fun _ _ _ h => h) (v := ?_) ?_ ?_
            rotate_left 1
            · (intro w hSw; (try dsimp only at hSw); (try simp only [List.getElem_toArray, List.getElem_cons_succ, List.getElem_cons_zero]); go_simp) <;> (with_reducible rfl)
            try simp only [List.getElem_toArray, List.getElem_cons_succ, List.getElem_cons_zero, Act.put, List.setIfInBounds_toArray, List.set_cons_zero, List.set_cons_succ]
            refine tk 13 rfl (by kernel_rfl) hHeld (fun _ _ _ h => h) (v := ?_) ?_ ?_
            rotate_left 1
            · (intro w hSw; (try dsimp only at hSw); (try simp only [List.getElem_toArray, List.getElem_cons_succ, List.getElem_cons_zero]); go_simp) <;> (with_reducible rfl)
            try simp only [List.getElem_toArray, List.getElem_cons_succ, List.getElem_cons_zero, Act.put, List.setIfInBounds_toArray, List.set_cons_zero, List.set_cons_succ]
            refine tk 14 rfl (by kernel_rfl) hHeld (fun _ _ _ h => h) (v := ?_) ?_ ?_
            rotate_left 1
            · (intro w hSw; (try dsimp only at hSw); (try simp only [List.getElem_toArray, List.getElem_cons_succ, List.getElem_cons_zero]); go_simp) <;> (with_reducible rfl)
            try simp only [List.getElem_toArray, List.getElem_cons_succ, List.getElem_cons_zero, Act.put, List.setIfInBounds_toArray, List.set_cons_zero, List.set_cons_succ]
            refine tk 15 rfl (by kernel_rfl) hHeld (fun _ _ _ h => h) (v := ?_) ?_ ?_
            rotate_left 1
            · (intro w hSw; (try dsimp only at hSw); (try simp only [List.getElem_toArray, List.getElem_cons_succ, List.getElem_cons_zero]); go_simp) <;> (with_reducible rfl)
            try simp only [List.getElem_toArray, List.getElem_cons_succ, List.getElem_cons_zero, Act.put, List.setIfInBounds_toArray, List.set_cons_zero, List.set_cons_succ]
            refine tk 16 rfl (by kernel_rfl) hHeld (fun _ _ _ h => h) (v := ?_) ?_ ?_
            rotate_left 1
            · (intro w hSw; (try dsimp only at hSw); (try simp only [List.getElem_toArray, List.getElem_cons_succ, List.getElem_cons_zero]); go_simp) <;> (with_reducible rfl)
            try simp only [List.getElem_toArray, List.getElem_cons_succ, List.getElem_cons_zero, Act.put, List.setIfInBounds_toArray, List.set_cons_zero, List.set_cons_succ]
            refine tk 17 rfl (by kernel_rfl) hHeld (fun _ _ _ h => h) (v := ?_) ?_ ?_
            rotate_left 1
            · (intro w hSw; (try dsimp only at hSw); (try simp only [List.getElem_toArray, List.getElem_cons_succ, List.getElem_cons_zero]); go_simp) <;> (with_reducible rfl)
            try simp only [List.getElem_toArray, List.getElem_cons_succ, List.getElem_cons_zero, Act.put, List.setIfInBounds_toArray, List.set_cons_zero, List.set_cons_succ]
            refine tk 18 rfl (by kernel_rfl) hHeld (fun _ _ _ h => h) (v := ?_) ?_ ?_
            rotate_left 1
            · (intro w hSw; (try dsimp only at hSw); (try simp only [List.getElem_toArray, List.getElem_cons_succ, List.getElem_cons_zero]); go_simp) <;> (with_reducible rfl)
            try simp only [List.getElem_toArray, List.getElem_cons_succ, List.getElem_cons_zero, Act.put, List.setIfInBounds_toArray, List.set_cons_zero, List.set_cons_succ]
            refine tk 19 rfl (by kernel_rfl) hHeld (fun _ _ _ h => h) (v := ?_) ?_ ?_
            rotate_left 1
            · (intro w hSw; (try dsimp only at hSw); (try simp only [List.getElem_toArray, List.getElem_cons_succ, List.getElem_cons_zero]); go_simp) <;> (with_reducible rfl)
            try simp only [List.getElem_toArray, List.getElem_cons_succ, List.getElem_cons_zero, Act.put, List.setIfInBounds_toArray, List.set_cons_zero, List.set_cons_succ]
            refine tk 20 rfl (by kernel_rfl) hHeld (fun _ _ _ h => h) (v := ?_) ?_ ?_
            rotate_left 1
            · (intro w hSw; (try dsimp only at hSw); (try simp only [List.getElem_toArray, List.getElem_cons_succ, List.getElem_cons_zero]); go_simp) <;> (with_reducible rfl)
            try simp only [List.getElem_toArray, List.getElem_cons_succ, List.getElem_cons_zero, Act.put, List.setIfInBounds_toArray, List.set_cons_zero, List.set_cons_succ]
            refine tk 21 rfl (by kernel_rfl) hHeld (fun _ _ _ h => h) (v := ?_) ?_ ?_
            rotate_left 1
            · (intro w hSw; (try dsimp only at hSw); (try simp only [List.getElem_toArray, List.getElem_cons_succ, List.getElem_cons_zero]); go_simp) <;> (with_reducible rfl)
            try simp only [List.getElem_toArray, List.getElem_cons_succ, List.getElem_cons_zero, Act.put, List.setIfInBounds_toArray, List.set_cons_zero, List.set_cons_succ]
            refine tk 22 rfl (by kernel_rfl) hHeld (fun _ _ _ h => h) (v := ?_) ?_ ?_
            rotate_left 1
            · (intro w hSw; (try dsimp only at hSw); (try simp only [List.getElem_toArray, List.getElem_cons_succ, List.getElem_cons_zero]); go_simp) <;> (with_reducible rfl)
            try simp only [List.getElem_toArray, List.getElem_cons_succ, List.getElem_cons_zero, Act.put, List.setIfInBounds_toArray, List.set_cons_zero, List.set_cons_succ]
            refine tk 23 rfl (by kernel_rfl) hHeld (fun _ _ _ h => h) (v := ?_) ?_ ?_
            rotate_left 1
            · (intro w hSw; (try dsimp only at hSw); (try simp only [List.getElem_toArray, List.getElem_cons_succ, List.getElem_cons_zero]); go_simp) <;> (with_reducible rfl)
            try simp only [List.getElem_toArray, List.getElem_cons_succ, List.getElem_cons_zero, Act.put, List.setIfInBounds_toArray, List.set_cons_zero, List.set_cons_succ]
            refine tk 24 rfl (by kernel_rfl) hHeld (fun _ _ _ h => h) (v := ?_) ?_ ?_
            rotate_left 1
            · (intro w hSw; (try dsimp only at hSw); (try simp only [List.getElem_toArray, List.getElem_cons_succ, List.getElem_cons_zero]); go_simp) <;> (with_reducible rfl)
            try simp only [List.getElem_toArray, List.getElem_cons_succ, List.getElem_cons_zero, Act.put, List.setIfInBounds_toArray, List.set_cons_zero, List.set_cons_succ]
            refine tk 25 rfl (by kernel_rfl) hHeld (fun _ _ _ h => h) (v := ?_) ?_ ?_
            rotate_left 1
            · (intro w hSw; (try dsimp only at hSw); (try simp only [List.getElem_toArray, List.getElem_cons_succ, List.getElem_cons_zero]); go_simp) <;> (with_reducible rfl)
            try simp only [List.getElem_toArray, List.getElem_cons_succ, List.getElem_cons_zero, Act.put, List.setIfInBounds_toArray, List.set_cons_zero, List.set_cons_succ]
            refine tk 26 rfl (by kernel_rfl) hHeld (fun _ _ _ h => h) (v := ?_) ?_ ?_
            rotate_left 1
            · (intro w hSw; (try dsimp only at hSw); (try simp only [List.getElem_toArray, List.getElem_cons_succ, List.getElem_cons_zero]); go_simp) <;> (with_reducible rfl)
            try simp only [List.getElem_toArray, List.getElem_cons_succ, List.getElem_cons_zero, Act.put, List.setIfInBounds_toArray, List.set_cons_zero, List.set_cons_succ]
            refine tk 27 rfl (by kernel_rfl) hHeld (fun _ _ _ h => h) (v := ?_) ?_ ?_
            rotate_left 1
            · (intro w hSw; (try dsimp only at hSw); (try simp only [List.getElem_toArray, List.getElem_cons_succ, List.getElem_cons_zero]); go_simp) <;> (with_reducible rfl)
            try simp only [List.getElem_toArray, List.getElem_cons_succ, List.getElem_cons_zero, Act.put, List.setIfInBounds_toArray, List.set_cons_zero, List.set_cons_succ]
            refine tk 28 rfl (by kernel_rfl) hHeld (fun _ _ _ h => h) (v := ?_) ?_ ?_
            rotate_left 1
            · (intro w hSw; (try dsimp only at hSw); (try simp only [List.getElem_toArray, List.getElem_cons_succ, List.getElem_cons_zero]); go_simp) <;> (with_reducible rfl)
            try simp only [List.getElem_toArray, List.getElem_cons_succ, List.getElem_cons_zero, Act.put, List.setIfInBounds_toArray, List.set_cons_zero, List.set_cons_succ]
            refine tk 29 rfl (by kernel_rfl) hHeld (fun _ _ _ h => h) (v := ?_) ?_ ?_
            rotate_left 1
            · (intro w hSw; (try dsimp only at hSw); (try simp only [List.getElem_toArray, List.getElem_cons_succ, List.getElem_cons_zero]); go_simp) <;> (with_reducible rfl)
            try simp only [List.getElem_toArray, List.getElem_cons_succ, List.getElem_cons_zero, Act.put, List.setIfInBounds_toArray, List.set_cons_zero, List.set_cons_succ]
            refine tk 30 rfl (by kernel_rfl) hHeld (fun _ _ _ h => h) (v := ?_) ?_ ?_
            rotate_left 1
            · (intro w hSw; (try dsimp only at hSw); (try simp only [List.getElem_toArray, List.getElem_cons_succ, List.getElem_cons_zero]); go_simp) <;> (with_reducible rfl)
            try simp only [List.getElem_toArray, List.getElem_cons_succ, List.getElem_cons_zero, Act.put, List.setIfInBounds_toArray, List.set_cons_zero, List.set_cons_succ]
            refine tk 31 rfl (by kernel_rfl) hHeld (fun _ _ _ h => h) (v := ?_) ?_ ?_
            rotate_left 1
            · (intro w hSw; (try dsimp only at hSw); (try simp only [List.getElem_toArray, List.getElem_cons_succ, List.getElem_cons_zero]); go_simp) <;> (with_reducible rfl)
            try simp only [List.getElem_toArray, List.getElem_cons_succ, List.getElem_cons_zero, Act.put, List.setIfInBounds_toArray, List.set_cons_zero, List.set_cons_succ]
            refine tk 32 rfl (by kernel_rfl) hHeld (fun _ _ _ h => h) (v := ?_) ?_ ?_
            rotate_left 1
            · (intro w hSw; (try dsimp only at hSw); (try simp only [List.getElem_toArray, List.getElem_cons_succ, List.getElem_cons_zero]); go_simp) <;> (with_reducible rfl)
            try simp only [List.getElem_toArray, List.getElem_cons_succ, List.getElem_cons_zero, Act.put, List.setIfInBounds_toArray, List.set_cons_zero, List.set_cons_succ]
            refine tk 33 rfl (by kernel_rfl) hHeld (fun _ _ _ h => h) (v := ?_) ?_ ?_
            rotate_left 1
            · (intro w hSw; (try dsimp only at hSw); (try simp only [List.getElem_toArray, List.getElem_cons_succ, List.getElem_cons_zero]); go_simp) <;> (with_reducible rfl)
            try simp only [List.getElem_toArray, List.getElem_cons_succ, List.getElem_cons_zero, Act.put, List.setIfInBounds_toArray, List.set_cons_zero, List.set_cons_succ]
            refine tk 34 rfl (by kernel_rfl) hHeld (fun _ _ _ h => h) (v := ?_) ?_ ?_
            rotate_left 1
            · (intro w hSw; (try dsimp only at hSw); (try simp only [List.getElem_toArray, List.getElem_cons_succ, List.getElem_cons_zero]); go_simp) <;> (with_reducible rfl)
            try simp only [List.getElem_toArray, List.getElem_cons_succ, List.getElem_cons_zero, Act.put, List.setIfInBounds_toArray, List.set_cons_zero, List.set_cons_succ]
            refine tk 35 rfl (by kernel_rfl) hHeld (fun _ _ _ h => h) (v := ?_) ?_ ?_
            rotate_left 1
            · (intro w hSw; (try dsimp only at hSw); (try simp only [List.getElem_toArray, List.getElem_cons_succ, List.getElem_cons_zero]); go_simp) <;> (with_reducible rfl)
            try simp only [List.getElem_toArray, List.getElem_cons_succ, List.getElem_cons_zero, Act.put, List.setIfInBounds_toArray, List.set_cons_zero, List.set_cons_succ]
            refine tk 36 rfl (by kernel_rfl) hHeld (fun _ _ _ h => h) (v := ?_) ?_ ?_
            rotate_left 1
            · (intro w hSw; (try dsimp only at hSw); (try simp only [List.getElem_toArray, List.getElem_cons_succ, List.getElem_cons_zero]); go_simp) <;> (with_reducible rfl)
            try simp only [List.getElem_toArray, List.getElem_cons_succ, List.getElem_cons_zero, Act.put, List.setIfInBounds_toArray, List.set_cons_zero, List.set_cons_succ]
            refine tk 37 rfl (by kernel_rfl) hHeld (fun _ _ _ h => h) (v := ?_) ?_ ?_
            rotate_left 1
            · (intro w hSw; (try dsimp only at hSw); (try simp only [List.getElem_toArray, List.getElem_cons_succ, List.getElem_cons_zero]); go_simp) <;> (with_reducible rfl)
            try simp only [List.getElem_toArray, List.getElem_cons_succ, List.getElem_cons_zero, Act.put, List.setIfInBounds_toArray, List.set_cons_zero, List.set_cons_succ]
            refine tk 38 rfl (by kernel_rfl) hHeld (fun _ _ _ h => h) (v := ?_) ?_ ?_
            rotate_left 1
            · (intro w hSw; (try dsimp only at hSw); (try simp only [List.getElem_toArray, List.getElem_cons_succ, List.getElem_cons_zero]); go_simp) <;> (with_reducible rfl)
            try simp only [List.getElem_toArray, List.getElem_cons_succ, List.getElem_cons_zero, Act.put, List.setIfInBounds_toArray, List.set_cons_zero, List.set_cons_succ]
            refine tk 39 rfl (by kernel_rfl) hHeld (fun _ _ _ h => h) (v := ?_) ?_ ?_
            rotate_left 1
            · (intro w hSw; (try dsimp only at hSw); (try simp only [List.getElem_toArray, List.getElem_cons_succ, List.getElem_cons_zero]); go_simp) <;> (with_reducible rfl)
            try simp only [List.getElem_toArray, List.getElem_cons_succ, List.getElem_cons_zero, Act.put, List.setIfInBounds_toArray, List.set_cons_zero, List.set_cons_succ]
            refine tk 40 rfl (by kernel_rfl) hHeld (fun _ _ _ h => h) (v := ?_) ?_ ?_
            rotate_left 1
            · (intro w hSw; (try dsimp only at hSw); (try simp only [List.getElem_toArray, List.getElem_cons_succ, List.getElem_cons_zero]); go_simp) <;> (with_reducible rfl)
            try simp only [List.getElem_toArray, List.getElem_cons_succ, List.getElem_cons_zero, Act.put, List.setIfInBounds_toArray, List.set_cons_zero, List.set_cons_succ]
            refine tk 41 rfl (by kernel_rfl) hHeld (fun _ _ _ h => h) (v := ?_) ?_ ?_
            rotate_left 1
            · (intro w hSw; (try dsimp only at hSw); (try simp only [List.getElem_toArray, List.getElem_cons_succ, List.getElem_cons_zero]); go_simp) <;> (with_reducible rfl)
            try simp only [List.getElem_toArray, List.getElem_cons_succ, List.getElem_cons_zero, Act.put, List.setIfInBounds_toArray, List.set_cons_zero, List.set_cons_succ]
            refine tk 42 rfl (by kernel_rfl) hHeld (fun _ _ _ h => h) (v := ?_) ?_ ?_
            rotate_left 1
            · (intro w hSw; (try dsimp only at hSw); (try simp only [List.getElem_toArray, List.getElem_cons_succ, List.getElem_cons_zero]); go_simp) <;> (with_reducible rfl)
            try simp only [List.getElem_toArray, List.getElem_cons_succ, List.getElem_cons_zero, Act.put, List.setIfInBounds_toArray, List.set_cons_zero, List.set_cons_succ]
            refine tk 43 rfl (by kernel_rfl) hHeld (fun _ _ _ h => h) (v := ?_) ?_ ?_
            rotate_left 1
            · (intro w hSw; (try dsimp only at hSw); (try simp only [List.getElem_toArray, List.getElem_cons_succ, List.getElem_cons_zero]); go_simp) <;> (with_reducible rfl)
            try simp only [List.getElem_toArray, List.getElem_cons_succ, List.getElem_cons_zero, Act.put, List.setIfInBounds_toArray, List.set_cons_zero, List.set_cons_succ]
            refine tk 44 rfl (by kernel_rfl) hHeld (fun _ _ _ h => h) (v := ?_) ?_ ?_
            rotate_left 1
            · (intro w hSw; (try dsimp only at hSw); (try simp only [List.getElem_toArray, List.getElem_cons_succ, List.getElem_cons_zero]); go_simp) <;> (with_reducible rfl)
            try simp only [List.getElem_toArray, List.getElem_cons_succ, List.getElem_cons_zero, Act.put, List.setIfInBounds_toArray, List.set_cons_zero, List.set_cons_succ]
            refine tk 45 rfl (by kernel_rfl) hHeld (fun _ _ _ h => h) (v := ?_) ?_ ?_
            rotate_left 1
            · (intro w hSw; (try dsimp only at hSw); (try simp only [List.getElem_toArray, List.getElem_cons_succ, List.getElem_cons_zero]); go_simp) <;> (with_reducible rfl)
            try simp only [List.getElem_toArray, List.getElem_cons_succ, List.getElem_cons_zero, Act.put, List.setIfInBounds_toArray, List.set_cons_zero, List.set_cons_succ]
            refine tk 46 rfl (by kernel_rfl) hHeld (fun _ _ _ h => h) (v := ?_) ?_ ?_
            rotate_left 1
            · (intro w hSw; (try dsimp only at hSw); (try simp only [List.getElem_toArray, List.getElem_cons_succ, List.getElem_cons_zero]); go_simp) <;> (with_reducible rfl)
            try simp only [List.getElem_toArray, List.getElem_cons_succ, List.getElem_cons_zero, Act.put, List.setIfInBounds_toArray, List.set_cons_zero, List.set_cons_succ]
            refine tk 47 rfl (by kernel_rfl) hHeld (fun _ _ _ h => h) (v := ?_) ?_ ?_
            rotate_left 1
            · (intro w hSw; (try dsimp only at hSw); (try simp only [List.getElem_toArray, List.getElem_cons_succ, List.getElem_cons_zero]); go_simp) <;> (with_reducible rfl)
            try simp only [List.getElem_toArray, List.getElem_cons_succ, List.getElem_cons_zero, Act.put, List.setIfInBounds_toArray, List.set_cons_zero, List.set_cons_succ]
            refine tk 48 rfl (by kernel_rfl) hHeld (fun _ _ _ h => h) (v := ?_) ?_ ?_
            rotate_left 1
            · (intro w hSw; (try dsimp only at hSw); (try simp only [List.getElem_toArray, List.getElem_cons_succ, List.getElem_cons_zero]); go_simp) <;> (with_reducible rfl)
            try simp only [List.getElem_toArray, List.getElem_cons_succ, List.getElem_cons_zero, Act.put, List.setIfInBounds_toArray, List.set_cons_zero, List.set_cons_succ]
            refine tk 49 rfl (by kernel_rfl) hHeld (fun _ _ _ h => h) (v := ?_) ?_ ?_
            rotate_left 1
            · (intro w hSw; (try dsimp only at hSw); (try simp only [List.getElem_toArray, List.getElem_cons_succ, List.getElem_cons_zero]); go_simp) <;> (with_reducible rfl)
            try simp only [List.getElem_toArray, List.getElem_cons_succ, List.getElem_cons_zero, Act.put, List.setIfInBounds_toArray, List.set_cons_zero, List.set_cons_succ]
            refine tk 50 rfl (by kernel_rfl) hHeld (fun _ _ _ h => h) (v := ?_) ?_ ?_
            rotate_left 1
            · (intro w hSw; (try dsimp only at hSw); (try simp only [List.getElem_toArray, List.getElem_cons_succ, List.getElem_cons_zero]); go_simp) <;> (with_reducible rfl)
            try simp only [List.getElem_toArray, List.getElem_cons_succ, List.getElem_cons_zero, Act.put, List.setIfInBounds_toArray, List.set_cons_zero, List.set_cons_succ]
            refine tk 51 rfl (by kernel_rfl) hHeld (fun _ _ _ h => h) (v := ?_) ?_ ?_
            rotate_left 1
            · (intro w hSw; (try dsimp only at hSw); (try simp only [List.getElem_toArray, List.getElem_cons_succ, List.getElem_cons_zero]); go_simp) <;> (with_reducible rfl)
            try simp only [List.getElem_toArray, List.getElem_cons_succ, List.getElem_cons_zero, Act.put, List.setIfInBounds_toArray, List.set_cons_zero, List.set_cons_succ]
            refine tk 52 rfl (by kernel_rfl) hHeld (fun _ _ _ h => h) (v := ?_) ?_ ?_
            rotate_left 1
            · (intro w hSw; (try dsimp only at hSw); (try simp only [List.getElem_toArray, List.getElem_cons_succ, List.getElem_cons_zero]); go_simp) <;> (with_reducible rfl)
            try simp only [List.getElem_toArray, List.getElem_cons_succ, List.getElem_cons_zero, Act.put, List.setIfInBounds_toArray, List.set_cons_zero, List.set_cons_succ]
            refine tk 53 rfl (by kernel_rfl) hHeld (fun _ _ _ h => h) (v := ?_) ?_ ?_
            rotate_left 1
            · (intro w hSw; (try dsimp only at hSw); (try simp only [List.getElem_toArray, List.getElem_cons_succ, List.getElem_cons_zero]); go_simp) <;> (with_reducible rfl)
            try simp only [List.getElem_toArray, List.getElem_cons_succ, List.getElem_cons_zero, Act.put, List.setIfInBounds_toArray, List.set_cons_zero, List.set_cons_succ]
            refine tk 54 rfl (by kernel_rfl) hHeld (fun _ _ _ h => h) (v := ?_) ?_ ?_
            rotate_left 1
            · (intro w hSw; (try dsimp only at hSw); (try simp only [List.getElem_toArray, List.getElem_cons_succ, List.getElem_cons_zero]); go_simp) <;> (with_reducible rfl)
            try simp only [List.getElem_toArray, List.getElem_cons_succ, List.getElem_cons_zero, Act.put, List.setIfInBounds_toArray, List.set_cons_zero, List.set_cons_succ]
            refine tk 55 rfl (by kernel_rfl) hHeld (fun _ _ _ h => h) (v := ?_) ?_ ?_
            rotate_left 1
            · (intro w hSw; (try dsimp only at hSw); (try simp only [List.getElem_toArray, List.getElem_cons_succ, List.getElem_cons_zero]); go_simp) <;> (with_reducible rfl)
            try simp only [List.getElem_toArray, List.getElem_cons_succ, List.getElem_cons_zero, Act.put, List.setIfInBounds_toArray, List.set_cons_zero, List.set_cons_succ]
            refine tk 56 rfl (by kernel_rfl) hHeld (fun _ _ _ h => h) (v := ?_) ?_ ?_
            rotate_left 1
            · (intro w hSw; (try dsimp only at hSw); (try simp only [List.getElem_toArray, List.getElem_cons_succ, List.getElem_cons_zero]); go_simp) <;> (with_reducible rfl)
            try simp only [List.getElem_toArray, List.getElem_cons_succ, List.getElem_cons_zero, Act.put, List.setIfInBounds_toArray, List.set_cons_zero, List.set_cons_succ]
            refine tk 57 rfl (by kernel_rfl) hHeld (fun _ _ _ h => h) (v := ?_) ?_ ?_
            rotate_left 1
            · (intro w hSw; (try dsimp only at hSw); (try simp only [List.getElem_toArray, List.getElem_cons_succ, List.getElem_cons_zero]); go_simp) <;> (with_reducible rfl)
            try simp only [List.getElem_toArray, List.getElem_cons_succ, List.getElem_cons_zero, Act.put, List.setIfInBounds_toArray, List.set_cons_zero, List.set_cons_succ]
            refine tk 58 rfl (by kernel_rfl) hHeld (fun _ _ _ h => h) (v := ?_) ?_ ?_
            rotate_left 1
            · (intro w hSw; (try dsimp only at hSw); (try simp only [List.getElem_toArray, List.getElem_cons_succ, List.getElem_cons_zero]); go_simp) <;> (with_reducible rfl)
            try simp only [List.getElem_toArray, List.getElem_cons_succ, List.getElem_cons_zero, Act.put, List.setIfInBounds_toArray, List.set_cons_zero, List.set_cons_succ]
            refine tk 59 rfl (by kernel_rfl) hHeld (fun _ _ _ h => h) (v := ?_) ?_ ?_
            rotate_left 1
            · (intro w hSw; (try dsimp only at hSw); (try simp only [List.getElem_toArray, List.getElem_cons_succ, List.getElem_cons_zero]); go_simp) <;> (with_reducible rfl)
            try simp only [List.getElem_toArray, List.getElem_cons_succ, List.getElem_cons_zero, Act.put, List.setIfInBounds_toArray, List.set_cons_zero, List.set_cons_succ]
            refine tk 60 rfl (by kernel_rfl) hHeld (fun _ _ _ h => h) (v := ?_) ?_ ?_
            rotate_left 1
            · (intro w hSw; (try dsimp only at hSw); (try simp only [List.getElem_toArray, List.getElem_cons_succ, List.getElem_cons_zero]); go_simp) <;> (with_reducible rfl)
            try simp only [List.getElem_toArray, List.getElem_cons_succ, List.getElem_cons_zero, Act.put, List.setIfInBounds_toArray, List.set_cons_zero, List.set_cons_succ]
            refine tk 61 rfl (by kernel_rfl) hHeld (fun _ _ _ h => h) (v := ?_) ?_ ?_
            rotate_left 1
            · (intro w hSw; (try dsimp only at hSw); (try simp only [List.getElem_toArray, List.getElem_cons_succ, List.getElem_cons_zero]); go_simp) <;> (with_reducible rfl)
            try simp only [List.getElem_toArray, List.getElem_cons_succ, List.getElem_cons_zero, Act.put, List.setIfInBounds_toArray, List.set_cons_zero, List.set_cons_succ]
            refine tk 62 rfl (by kernel_rfl) hHeld (fun _ _ _ h => h) (v := ?_) ?_ ?_
            rotate_left 1
            · (intro w hSw; (try dsimp only at hSw); (try simp only [List.getElem_toArray, List.getElem_cons_succ, List.getElem_cons_zero]); go_simp) <;> (with_reducible rfl)
            try simp only [List.getElem_toArray, List.getElem_cons_succ, List.getElem_cons_zero, Act.put, List.setIfInBounds_toArray, List.set_cons_zero, List.set_cons_succ]
            refine tk 63 rfl (by kernel_rfl) hHeld (fun _ _ _ h => h) (v := ?_) ?_ ?_
            rotate_left 1
            · (intro w hSw; (try dsimp only at hSw); (try simp only [List.getElem_toArray, List.getElem_cons_succ, List.getElem_cons_zero]); go_simp) <;> (with_reducible rfl)
            try simp only [List.getElem_toArray, List.getElem_cons_succ, List.getElem_cons_zero, Act.put, List.setIfInBounds_toArray, List.set_cons_zero, List.set_cons_succ]
            refine tk 64 rfl (by kernel_rfl) hHeld (fun _ _ _ h => h) (v := ?_) ?_ ?_
            rotate_left 1
            · (intro w hSw; (try dsimp only at hSw); (try simp only [List.getElem_toArray, List.getElem_cons_succ, List.getElem_cons_zero]); go_simp) <;> (with_reducible rfl)
            try simp only [List.getElem_toArray, List.getElem_cons_succ, List.getElem_cons_zero, Act.put, List.setIfInBounds_toArray, List.set_cons_zero, List.set_cons_succ]
            refine tk 65 rfl (by kernel_rfl) hHeld (fun _ _ _ h => h) (v := ?_) ?_ ?_
            rotate_left 1
            · (intro w hSw; (try dsimp only at hSw); (try simp only [List.getElem_toArray, List.getElem_cons_succ, List.getElem_cons_zero]); go_simp) <;> (with_reducible rfl)
            try simp only [List.getElem_toArray, List.getElem_cons_succ, List.getElem_cons_zero, Act.put, List.setIfInBounds_toArray, List.set_cons_zero, List.set_cons_succ]
            refine tk 66 rfl (by kernel_rfl) hHeld (fun _ _ _ h => h) (v := ?_) ?_ ?_
            rotate_left 1
            · (intro w hSw; (try dsimp only at hSw); (try simp only [List.getElem_toArray, List.getElem_cons_succ, List.getElem_cons_zero]); go_simp) <;> (with_reducible rfl)
            try simp only [List.getElem_toArray, List.getElem_cons_succ, List.getElem_cons_zero, Act.put, List.setIfInBounds_toArray, List.set_cons_zero, List.set_cons_succ]
            refine tk 67 rfl (by kernel_rfl) hHeld (fun _ _ _ h => h) (v := ?_) ?_ ?_
            rotate_left 1
            · (intro w hSw; (try dsimp only at hSw); (try simp only [List.getElem_toArray, List.getElem_cons_succ, List.getElem_cons_zero]); go_simp) <;> (with_reducible rfl)
            try simp only [List.getElem_toArray, List.getElem_cons_succ, List.getElem_cons_zero, Act.put, List.setIfInBounds_toArray, List.set_cons_zero, List.set_cons_succ]
            refine tk 68 rfl (by kernel_rfl) hHeld (fun _ _ _ h => h) (v := ?_) ?_ ?_
            rotate_left 1
            · (intro w hSw; (try dsimp only at hSw); (try simp only [List.getElem_toArray, List.getElem_cons_succ, List.getElem_cons_zero]); go_simp) <;> (with_reducible rfl)
            try simp only [List.getElem_toArray, List.getElem_cons_succ, List.getElem_cons_zero, Act.put, List.setIfInBounds_toArray, List.set_cons_zero, List.set_cons_succ]
            refine tk 69 rfl (by kernel_rfl) hHeld (fun _ _ _ h => h) (v := ?_) ?_ ?_
            rotate_left 1
            · (intro w hSw; (try dsimp only at hSw); (try simp only [List.getElem_toArray, List.getElem_cons_succ, List.getElem_cons_zero]); go_simp) <;> (with_reducible rfl)
            try simp only [List.getElem_toArray, List.getElem_cons_succ, List.getElem_cons_zero, Act.put, List.setIfInBounds_toArray, List.set_cons_zero, List.set_cons_succ]
            refine tk 70 rfl (by kernel_rfl) hHeld (fun _ _ _ h => h) (v := ?_) ?_ ?_
            rotate_left 1
            · (intro w hSw; (try dsimp only at hSw); (try simp only [List.getElem_toArray, List.getElem_cons_succ, List.getElem_cons_zero]); go_simp) <;> (with_reducible rfl)
            try simp only [List.getElem_toArray, List.getElem_cons_succ, List.getElem_cons_zero, Act.put, List.setIfInBounds_toArray, List.set_cons_zero, List.set_cons_succ]
            refine tk 71 rfl (by kernel_rfl) hHeld (fun _ _ _ h => h) (v := ?_) ?_ ?_
            rotate_left 1
            · (intro w hSw; (try dsimp only at hSw); (try simp only [List.getElem_toArray, List.getElem_cons_succ, List.getElem_cons_zero]); go_simp) <;> (with_reducible rfl)
            try simp only [List.getElem_toArray, List.getElem_cons_succ, List.getElem_cons_zero, Act.put, List.setIfInBounds_toArray, List.set_cons_zero, List.set_cons_succ]
            refine tk 72 rfl (by kernel_rfl) hHeld (fun _ _ _ h => h) (v := ?_) ?_ ?_
            rotate_left 1
            · (intro w hSw; (try dsimp only at hSw); (try simp only [List.getElem_toArray, List.getElem_cons_succ, List.getElem_cons_zero]); go_simp) <;> (with_reducible rfl)
            try simp only [List.getElem_toArray, List.getElem_cons_succ, List.getElem_cons_zero, Act.put, List.setIfInBounds_toArray, List.set_cons_zero, List.set_cons_succ]
            refine tk 73 rfl (by kernel_rfl) hHeld (fun _ _ _ h => h) (v := ?_) ?_ ?_
            rotate_left 1
            · (intro w hSw; (try dsimp only at hSw); (try simp only [List.getElem_toArray, List.getElem_cons_succ, List.getElem_cons_zero]); go_simp) <;> (with_reducible rfl)
            try simp only [List.getElem_toArray, List.getElem_cons_succ, List.getElem_cons_zero, Act.put, List.setIfInBounds_toArray, List.set_cons_zero, List.set_cons_succ]
            refine wpAnyH_ready (rs := [74]) (by kernel_rfl) (by simp) (AllReadyH.cons rfl (fun K hK => ?_) AllReadyH.nil)
            simp only [List.getElem_toArray, List.getElem_cons_succ, List.getElem_cons_zero]
            go_simp
            go_at_call 18
            refine (GL.out _ hHeld.2.2.2.2.2.2.2.2.2.2.2.2).mono ?_
            rintro e w' ⟨rfl, m, rfl⟩
            try go_wp2_with fail
            refine hK.out _ _ ⟨hHeld.1, hHeld.2.1, hHeld.2.2.1, hHeld.2.2.2.1, hHeld.2.2.2.2.1, hHeld.2.2.2.2.2.1, hHeld.2.2.2.2.2.2.1, hHeld.2.2.2.2.2.2.2.1, hHeld.2.2.2.2.2.2.2.2.1, hHeld.2.2.2.2.2.2.2.2.2.1, hHeld.2.2.2.2.2.2.2.2.2.2.1, hHeld.2.2.2.2.2.2.2.2.2.2.2.1, (let ⟨q, hq⟩ := hHeld.2.2.2.2.2.2.2.2.2.2.2.2; ⟨q + m, by rw [hq]; simp⟩)⟩ (fun hHeld => ?_)
            clear hK K
            try simp only [List.getElem_toArray, List.getElem_cons_succ, List.getElem_cons_zero, Act.put, List.setIfInBounds_toArray, List.set_cons_zero, List.set_cons_succ]
            refine tk 75 rfl (by kernel_rfl) hHeld (fun _ _ _ h => h) (v := ?_) ?_ ?_
            rotate_left 1
            · (intro w hSw; (try dsimp only at hSw); (try simp only [List.getElem_toArray, List.getElem_cons_succ, List.getElem_cons_zero]); go_simp) <;> (with_reducible rfl)
            try simp only [List.getElem_toArray, List.getElem_cons_succ, List.getElem_cons_zero, Act.put, List.setIfInBounds_toArray, List.set_cons_zero, List.set_cons_succ]
            refine tk 76 rfl (by kernel_rfl) hHeld (fun _ _ _ h => h) (v := ?_) ?_ ?_
            rotate_left 1
            · (intro w hSw; (try dsimp only at hSw); (try simp only [List.getElem_toArray, List.getElem_cons_succ, List.getElem_cons_zero]); go_simp) <;> (with_reducible rfl)
            try simp only [List.getElem_toArray, List.getElem_cons_succ, List.getElem_cons_zero, Act.put, List.setIfInBounds_toArray, List.set_cons_zero, List.set_cons_succ]
            refine wpAnyH_done (by kernel_rfl) ?_ _
            obtain ⟨n', hn'⟩ := hHeld.2.2.2.2.2.2.2.2.2.2.2.2
            go_wp2_with fail
            go_ret
            exact ⟨ret_bool hne.out.symm, n', hn'⟩
      · obtain rfl : k = xs.length := by omega
        have he : Hid (decide (xs.map (·.c) = ys.map (·.c)) = true) := Lib.hid (decide_eq_true (List.ext_getElem (by simp [HL.out]) (fun j g1 g2 => by
          simp only [List.getElem_map]
          exact hprev.out j (by simpa using g1) (by simpa using g1) (by simpa using g2))))
        go_wp2
        go_ret
        exact ⟨ret_bool he.out.symm, n, rfl⟩
  · have hne : Hid (decide (xs.map (·.c) = ys.map (·.c)) = false) := Lib.hid (decide_eq_false (fun e => hl (by have := congrArg List.length e; simpa using this)))
    have hl1 : ((xs.length : Int) != (ys.length : Int)) = true := by rw [bne_iff_ne]; omega
    go_enter Try.func13, Try.ntmps13
    go_wp2
    go_ret
    exact ⟨ret_bool hne.out.symm, 0, rfl⟩
end Go.Proofs.Yteakiielcmgkeaa
