/-
  The walks of layer 44: the reference's comparisons of lists, reports and queues, of equal things. By an AI agent.
-/
import Derived.Test.YtfjkelngdljikaaSam
import Derived.Test.YtfjkelngdljikaaSpk
namespace Go.Proofs.Ytfjkelngdljikaa
set_option linter.unusedVariables false
set_option linter.unusedSimpArgs false
open Go.RowKit Go.Deep

set_option maxRecDepth 100000 in
set_option maxHeartbeats 3000000 in
theorem sameuts_any (A1 A2 : Option Addr) (c1 c2 B : Nat) (l1 l2 : List Q.Um) (w : World) (h1 : Q.UsIn w B A1 l1) (h2 : Q.UsIn w B A2 l2) (hB : B ≤ w.heap.size) (he : l1.map (·.u) = l2.map (·.u)) (hm : l1.length ≤ maxLen) (hok : ∀ m ∈ l1, m.u.Ok) :
    Calls Try.prog 31 #[.slice A1 l1.length c1, .slice A2 l2.length c2] w fun e w' => e = .returned (.bool true) ∧ Below w.heap.size w w' := by
  have hl : l1.length = l2.length := by have := congrArg List.length he; simpa using this
  have EQ : Hid (∀ k (h : k < l1.length) (h' : k < l2.length), l1[k].u = l2[k].u) := Lib.hid (fun k h h' => by
    have e1 : l1[k].u = l2[k].u := by have := congrArg (fun l => l[k]?) he; simpa [h, hl ▸ h] using this
    exact e1)
  have H1 := Lib.hid h1
  have H2 := Lib.hid h2
  have HOK := Lib.hid hok
  have HL := Lib.hid hl
  have hl1 : ((l1.length : Int) != (l2.length : Int)) = false := by rw [hl]; simp
  unfold maxLen at hm
  have hm2 : l2.length ≤ l1.length := by omega
  have hm3 : l1.length ≤ l2.length := by omega
  clear h1 h2 hok he hl
  go_enter Try.func31, Try.ntmps31
  go_wp2_with fail
  go_loopw [5] (fun i wr => ∃ k : Nat, k ≤ l1.length ∧ i = .int .i64 k ∧ Hid (Below w.heap.size w wr)) (fun i _ => l1.length - (intOf i).toNat)
  case atStart => exact ⟨0, Nat.zero_le _, rfl, Lib.hid (Below.refl _ _)⟩
  case round =>
    obtain ⟨k, hk, rfl, hbl⟩ := hrel
    by_cases hlt : k < l1.length
    · have hlt2 : k < l2.length := by omega
      obtain ⟨b1, o1, rfl, hb1, hc1⟩ := Q.reads_at H1.out.row (by omega)
      obtain ⟨b2, o2, rfl, hb2, hc2⟩ := Q.reads_at H2.out.row (by omega)
      obtain ⟨s0, s1, s2, s3, s4⟩ := hc1 k hlt
      obtain ⟨t0, t1, t2, t3, t4⟩ := hc2 k hlt2
      have SC := fun (W : World) (h : Below w.heap.size w W) => sameut_any l1[k] l2[k] B W ((H1.out.el _ (List.getElem_mem hlt)).below h hB) ((H2.out.el _ (List.getElem_mem hlt2)).below h hB) (Nat.le_trans hB h.size) (EQ.out k hlt hlt2) (HOK.out _ (List.getElem_mem hlt)).1 (HOK.out _ (List.getElem_mem hlt)).2.1 (HOK.out _ (List.getElem_mem hlt)).2.2
      have CELL : Hid (∀ W, Below w.heap.size w W → (W.cell? ⟨b1, o1 + k * 5, none⟩ = some (.slice l1[k].aw l1[k].u.words.length l1[k].cw) ∧ W.cell? ⟨b1, o1 + k * 5 + 1, none⟩ = some (.slice l1[k].ac l1[k].u.chs.length l1[k].cc) ∧ W.cell? ⟨b1, o1 + k * 5 + 2, none⟩ = some (.int .i64 l1[k].u.cl) ∧ W.cell? ⟨b1, o1 + k * 5 + 3, none⟩ = some (.int .i64 l1[k].u.af) ∧ W.cell? ⟨b1, o1 + k * 5 + 4, none⟩ = some (.int .i64 l1[k].u.up) ∧ W.cell? ⟨b2, o2 + k * 5, none⟩ = some (.slice l2[k].aw l2[k].u.words.length l2[k].cw) ∧ W.cell? ⟨b2, o2 + k * 5 + 1, none⟩ = some (.slice l2[k].ac l2[k].u.chs.length l2[k].cc) ∧ W.cell? ⟨b2, o2 + k * 5 + 2, none⟩ = some (.int .i64 l2[k].u.cl) ∧ W.cell? ⟨b2, o2 + k * 5 + 3, none⟩ = some (.int .i64 l2[k].u.af) ∧ W.cell? ⟨b2, o2 + k * 5 + 4, none⟩ = some (.int .i64 l2[k].u.up))) := Lib.hid (fun W h => ⟨(h.cell (p := ⟨b1, _, none⟩) (Nat.lt_of_lt_of_le hb1 hB)).trans s0, (h.cell (p := ⟨b1, _, none⟩) (Nat.lt_of_lt_of_le hb1 hB)).trans s1, (h.cell (p := ⟨b1, _, none⟩) (Nat.lt_of_lt_of_le hb1 hB)).trans s2, (h.cell (p := ⟨b1, _, none⟩) (Nat.lt_of_lt_of_le hb1 hB)).trans s3, (h.cell (p := ⟨b1, _, none⟩) (Nat.lt_of_lt_of_le hb1 hB)).trans s4, (h.cell (p := ⟨b2, _, none⟩) (Nat.lt_of_lt_of_le hb2 hB)).trans t0, (h.cell (p := ⟨b2, _, none⟩) (Nat.lt_of_lt_of_le hb2 hB)).trans t1, (h.cell (p := ⟨b2, _, none⟩) (Nat.lt_of_lt_of_le hb2 hB)).trans t2, (h.cell (p := ⟨b2, _, none⟩) (Nat.lt_of_lt_of_le hb2 hB)).trans t3, (h.cell (p := ⟨b2, _, none⟩) (Nat.lt_of_lt_of_le hb2 hB)).trans t4⟩)
      simp only [Q.Um.cells] at SC
      replace SC := Lib.hid SC
      have q1 : (0 : Int) ≤ (k : Int) := by omega
      have q2 : (k : Int) < (l1.length : Int) := by omega
      have q3 : (k : Int) < (l2.length : Int) := by omega
      clear hc1 hc2 s0 s1 s2 s3 s4 t0 t1 t2 t3 t4
      generalize l1[k].aw = f0 at *
      generalize l1[k].u.words.length = f1 at *
      generalize l1[k].cw = f2 at *
      generalize l1[k].ac = f3 at *
      generalize l1[k].u.chs.length = f4 at *
      generalize l1[k].cc = f5 at *
      generalize l1[k].u.cl = f6 at *
      generalize l1[k].u.af = f7 at *
      generalize l1[k].u.up = f8 at *
      generalize l2[k].aw = g0 at *
      generalize l2[k].u.words.length = g1 at *
      generalize l2[k].cw = g2 at *
      generalize l2[k].ac = g3 at *
      generalize l2[k].u.chs.length = g4 at *
      generalize l2[k].cc = g5 at *
      generalize l2[k].u.cl = g6 at *
      generalize l2[k].u.af = g7 at *
      generalize l2[k].u.up = g8 at *
      go_wp2_with fail
      refine wp_region_held_drew (S := fun w' => (w'.cell? ⟨b1, o1 + k * 5, none⟩ = some (.slice f0 f1 f2) ∧ w'.cell? ⟨b1, o1 + k * 5 + 1, none⟩ = some (.slice f3 f4 f5) ∧ w'.cell? ⟨b1, o1 + k * 5 + 2, none⟩ = some (.int .i64 f6) ∧ w'.cell? ⟨b1, o1 + k * 5 + 3, none⟩ = some (.int .i64 f7) ∧ w'.cell? ⟨b1, o1 + k * 5 + 4, none⟩ = some (.int .i64 f8) ∧ w'.cell? ⟨b2, o2 + k * 5, none⟩ = some (.slice g0 g1 g2) ∧ w'.cell? ⟨b2, o2 + k * 5 + 1, none⟩ = some (.slice g3 g4 g5) ∧ w'.cell? ⟨b2, o2 + k * 5 + 2, none⟩ = some (.int .i64 g6) ∧ w'.cell? ⟨b2, o2 + k * 5 + 3, none⟩ = some (.int .i64 g7) ∧ w'.cell? ⟨b2, o2 + k * 5 + 4, none⟩ = some (.int .i64 g8)) ∧ Below w.heap.size w w') (by kernel_rfl) ⟨CELL.out _ (hbl.out.drew), hbl.out.drew⟩ (fun hHeld => ?_)
      obtain ⟨wd, hwd⟩ : ∃ W, wr.drew = W := ⟨_, rfl⟩
      rw [hwd] at hHeld ⊢
      clear hwd
      refine tk 0 rfl (by kernel_rfl) hHeld (fun _ _ _ h => h) (v := ?_) ?_ ?_
      rotate_left 1
      · (intro w hSw; (try dsimp only at hSw); (try simp only [List.getElem_toArray, List.getElem_cons_succ, List.getElem_cons_zero]); go_simp) <;> (with_reducible rfl)
      try simp only [List.getElem_toArray, List.getElem_cons_succ, List.getElem_cons_zero, Act.put, List.setIfInBounds_toArray, List.set_cons_zero, List.set_cons_succ]
      refine tk 1 rfl (by kernel_rfl) hHeld (fun _ _ _ h => h) (v := ?_) ?_ ?_
      rotate_left 1
      · (intro w hSw; (try dsimp only at hSw); (try simp only [List.getElem_toArray, List.getElem_cons_succ, List.getElem_cons_zero]); go_simp) <;> (with_reducible rfl)
      try simp only [List.getElem_toArray, List.getElem_cons_succ, List.getElem_cons_zero, Act.put, List.setIfInBounds_toArray, List.set_cons_zero, List.set_cons_succ]
      refine tk 2 rfl (by kernel_rfl) hHeld (fun _ _ _ h => h) (v := ?_) ?_ ?_
      rotate_left 1
      · (intro w hSw; (try dsimp only at hSw); (try simp only [List.getElem_toArray, List.getElem_cons_succ, List.getElem_cons_zero]); go_simp) <;> (with_reducible rfl)
      try simp only [List.getElem_toArray, List.getElem_cons_succ, List.getElem_cons_zero, Act.put, List.setIfInBounds_toArray, List.set_cons_zero, List.set_cons_succ]
      refine tk 3 rfl (by kernel_rfl) hHeld (fun _ _ _ h => h) (v := ?_) ?_ ?_
      rotate_left 1
      · (intro w hSw; (try dsimp only at hSw); (try simp only [List.getElem_toArray, List.getElem_cons_succ, List.getElem_cons_zero]); go_simp) <;> (with_reducible rfl)
      try simp only [List.getElem_toArray, List.getElem_cons_succ, List.getElem_cons_zero, Act.put, List.setIfInBounds_toArray, List.set_cons_zero, List.set_cons_succ]
      refine tk 4 rfl (by kernel_rfl) hHeld (fun _ _ _ h => h) (v := ?_) ?_ ?_
      rotate_left 1
      · (intro w hSw; (try dsimp only at hSw); (try simp only [List.getElem_toArray, List.getElem_cons_succ, List.getElem_cons_zero]); go_simp) <;> (with_reducible rfl)
      try simp only [List.getElem_toArray, List.getElem_cons_succ, List.getElem_cons_zero, Act.put, List.setIfInBounds_toArray, List.set_cons_zero, List.set_cons_succ]
      refine tk 5 rfl (by kernel_rfl) hHeld (fun _ _ _ h => h) (v := ?_) ?_ ?_
      rotate_left 1
      · (intro w hSw; (try dsimp only at hSw); (try simp only [List.getElem_toArray, List.getElem_cons_succ, List.getElem_cons_zero]); go_simp) <;> (with_reducible rfl)
      try simp only [List.getElem_toArray, List.getElem_cons_succ, List.getElem_cons_zero, Act.put, List.setIfInBounds_toArray, List.set_cons_zero, List.set_cons_succ]
      refine tk 6 rfl (by kernel_rfl) hHeld (fun _ _ _ h => h) (v := ?_) ?_ ?_
      rotate_left 1
      · (intro w hSw; (try dsimp only at hSw); (try simp only [List.getElem_toArray, List.getElem_cons_succ, List.getElem_cons_zero]); go_simp) <;> (with_reducible rfl)
      try simp only [List.getElem_toArray, List.getElem_cons_succ, List.getElem_cons_zero, Act.put, List.setIfInBounds_toArray, List.set_cons_zero, List.set_cons_succ]
      refine tk 7 rfl (by kernel_rfl) hHeld (fun _ _ _ h => h) (v := ?_) ?_ ?_
      rotate_left 1
      · (intro w hSw; (try dsimp only at hSw); (try simp only [List.getElem_toArray, List.getElem_cons_succ, List.getElem_cons_zero]); go_simp) <;> (with_reducible rfl)
      try simp only [List.getElem_toArray, List.getElem_cons_succ, List.getElem_cons_zero, Act.put, List.setIfInBounds_toArray, List.set_cons_zero, List.set_cons_succ]
      refine wpAnyH_ready (rs := [8]) (by kernel_rfl) (by simp) (AllReadyH.cons rfl (fun K hK => ?_) AllReadyH.nil)
      simp only [List.getElem_toArray, List.getElem_cons_succ, List.getElem_cons_zero]
      go_simp
      go_at_call 29
      refine (SC.out _ hHeld.2).mono ?_
      rintro e w' ⟨rfl, b9⟩
      try go_wp2_with fail
      have b10 := hHeld.2.trans (b9.mono hHeld.2.size)
      refine hK.out _ _ ⟨CELL.out _ b10, b10⟩ (fun hHeld => ?_)
      clear hK K
      try simp only [List.getElem_toArray, List.getElem_cons_succ, List.getElem_cons_zero, Act.put, List.setIfInBounds_toArray, List.set_cons_zero, List.set_cons_succ]
      refine tk 9 rfl (by kernel_rfl) hHeld (fun _ _ _ h => h) (v := ?_) ?_ ?_
      rotate_left 1
      · (intro w hSw; (try dsimp only at hSw); (try simp only [List.getElem_toArray, List.getElem_cons_succ, List.getElem_cons_zero]); go_simp) <;> (with_reducible rfl)
      try simp only [List.getElem_toArray, List.getElem_cons_succ, List.getElem_cons_zero, Act.put, List.setIfInBounds_toArray, List.set_cons_zero, List.set_cons_succ]
      refine wpAnyH_done (by kernel_rfl) ?_ _
      go_wp2_with fail
      exact ⟨⟨k + 1, hlt, by go_num, Lib.hid hHeld.2⟩, by simp [intOf]; omega⟩
    · obtain rfl : k = l1.length := by omega
      have q4 : decide (l1.length < l1.length) = false := decide_eq_false (by omega)
      go_wp2_with fail
      go_ret
      exact ⟨rfl, hbl.out⟩

set_option maxRecDepth 100000 in
set_option maxHeartbeats 1500000 in
theorem samesp_any (s t : Q.Sm) (B : Nat) (w : World) (h1 : Q.UIn w B s.m) (h2 : Q.UIn w B t.m) (hB : B ≤ w.heap.size) (he : s.a = t.a) (hok : s.m.u.Ok) :
    Calls Try.prog 20 #[.agg s.cells.toArray, .agg t.cells.toArray] w fun e w' => e = .returned (.bool true) ∧ Below w.heap.size w w' := by
  obtain ⟨m, be, en, co⟩ := s
  obtain ⟨m2, be2, en2, co2⟩ := t
  simp only [Q.Sm.a, Q.Sa.mk.injEq] at he
  obtain ⟨hu, rfl, rfl, rfl⟩ := he
  simp only at h1 h2 hok
  have SU := fun (W : World) (h : Below w.heap.size w W) => sameut_any m m2 B W (h1.below h hB) (h2.below h hB) (Nat.le_trans hB h.size) hu hok.1 hok.2.1 hok.2.2
  simp only [Q.Um.cells] at SU
  replace SU := Lib.hid SU
  simp only [Q.Sm.cells]
  clear h1 h2 hok hu
  generalize m.aw = f0 at *
  generalize m.u.words.length = f1 at *
  generalize m.cw = f2 at *
  generalize m.ac = f3 at *
  generalize m.u.chs.length = f4 at *
  generalize m.cc = f5 at *
  generalize m.u.cl = f6 at *
  generalize m.u.af = f7 at *
  generalize m.u.up = f8 at *
  generalize m2.aw = g0 at *
  generalize m2.u.words.length = g1 at *
  generalize m2.cw = g2 at *
  generalize m2.ac = g3 at *
  generalize m2.u.chs.length = g4 at *
  generalize m2.cc = g5 at *
  generalize m2.u.cl = g6 at *
  generalize m2.u.af = g7 at *
  generalize m2.u.up = g8 at *
  have B0 := Lib.hid ((below_box w (.cells #[.slice f0 f1 f2, .slice f3 f4 f5, .int .i64 f6, .int .i64 f7, .int .i64 f8, .int .i64 be, .int .i64 en, .bool co] 38)).alloc (by simp) (.cells #[.slice g0 g1 g2, .slice g3 g4 g5, .int .i64 g6, .int .i64 g7, .int .i64 g8, .int .i64 be, .int .i64 en, .bool co] 38))
  have V0 : Hid (((w.alloc (.cells #[.slice f0 f1 f2, .slice f3 f4 f5, .int .i64 f6, .int .i64 f7, .int .i64 f8, .int .i64 be, .int .i64 en, .bool co] 38)).alloc (.cells #[.slice g0 g1 g2, .slice g3 g4 g5, .int .i64 g6, .int .i64 g7, .int .i64 g8, .int .i64 be, .int .i64 en, .bool co] 38)).heap[w.heap.size]? = some (.cells #[.slice f0 f1 f2, .slice f3 f4 f5, .int .i64 f6, .int .i64 f7, .int .i64 f8, .int .i64 be, .int .i64 en, .bool co] 38 (0, 0))) := Lib.hid (heap_old2 _ _ (heap_alloc_new w _))
  have V1' := heap_alloc_new (w.alloc (.cells #[.slice f0 f1 f2, .slice f3 f4 f5, .int .i64 f6, .int .i64 f7, .int .i64 f8, .int .i64 be, .int .i64 en, .bool co] 38)) (.cells #[.slice g0 g1 g2, .slice g3 g4 g5, .int .i64 g6, .int .i64 g7, .int .i64 g8, .int .i64 be, .int .i64 en, .bool co] 38)
  rw [World.size_alloc] at V1'
  have V1 := Lib.hid V1'
  have SU1 := Lib.hid (SU.out _ B0.out)
  have hs0 : w.heap.size < ((w.alloc (.cells #[.slice f0 f1 f2, .slice f3 f4 f5, .int .i64 f6, .int .i64 f7, .int .i64 f8, .int .i64 be, .int .i64 en, .bool co] 38)).alloc (.cells #[.slice g0 g1 g2, .slice g3 g4 g5, .int .i64 g6, .int .i64 g7, .int .i64 g8, .int .i64 be, .int .i64 en, .bool co] 38)).heap.size := by simp <;> omega
  have hs1 : w.heap.size + 1 < ((w.alloc (.cells #[.slice f0 f1 f2, .slice f3 f4 f5, .int .i64 f6, .int .i64 f7, .int .i64 f8, .int .i64 be, .int .i64 en, .bool co] 38)).alloc (.cells #[.slice g0 g1 g2, .slice g3 g4 g5, .int .i64 g6, .int .i64 g7, .int .i64 g8, .int .i64 be, .int .i64 en, .bool co] 38)).heap.size := by simp <;> omega
  clear V1' SU
  go_enter Try.func20, Try.ntmps20
  go_wp2_with fail
  refine SU1.out.mono ?_
  rintro e w1 ⟨rfl, b1⟩
  have x5 := cell_of_block_ (i := 5) ((b1.block w.heap.size hs0).trans V0.out)
  have x6 := cell_of_block_ (i := 6) ((b1.block w.heap.size hs0).trans V0.out)
  have x7 := cell_of_block_ (i := 7) ((b1.block w.heap.size hs0).trans V0.out)
  have y5 := cell_of_block_ (i := 5) ((b1.block (w.heap.size + 1) hs1).trans V1.out)
  have y6 := cell_of_block_ (i := 6) ((b1.block (w.heap.size + 1) hs1).trans V1.out)
  have y7 := cell_of_block_ (i := 7) ((b1.block (w.heap.size + 1) hs1).trans V1.out)
  have B1 := Lib.hid (B0.out.trans (b1.mono B0.out.size))
  simp at x5 x6 x7 y5 y6 y7
  clear b1
  go_wp2_with fail
  go_ret
  exact ⟨ret_bool (by simp), B1.out⟩

set_option maxRecDepth 100000 in
set_option maxHeartbeats 3000000 in
theorem samereps_any (A1 A2 : Option Addr) (c1 c2 B : Nat) (l1 l2 : List Q.Sm) (w : World) (h1 : Q.SsIn w B A1 l1) (h2 : Q.SsIn w B A2 l2) (hB : B ≤ w.heap.size) (he : l1.map Q.Sm.a = l2.map Q.Sm.a) (hm : l1.length ≤ maxLen) (hok : ∀ m ∈ l1, m.m.u.Ok) :
    Calls Try.prog 26 #[.slice A1 l1.length c1, .slice A2 l2.length c2] w fun e w' => e = .returned (.bool true) ∧ Below w.heap.size w w' := by
  have hl : l1.length = l2.length := by have := congrArg List.length he; simpa using this
  have EQ : Hid (∀ k (h : k < l1.length) (h' : k < l2.length), l1[k].a = l2[k].a) := Lib.hid (fun k h h' => by
    have e1 : l1[k].a = l2[k].a := by have := congrArg (fun l => l[k]?) he; simpa [h, hl ▸ h] using this
    exact e1)
  have H1 := Lib.hid h1
  have H2 := Lib.hid h2
  have HOK := Lib.hid hok
  have HL := Lib.hid hl
  have hl1 : ((l1.length : Int) != (l2.length : Int)) = false := by rw [hl]; simp
  unfold maxLen at hm
  have hm2 : l2.length ≤ l1.length := by omega
  have hm3 : l1.length ≤ l2.length := by omega
  clear h1 h2 hok he hl
  go_enter Try.func26, Try.ntmps26
  go_wp2_with fail
  go_loopw [5] (fun i wr => ∃ k : Nat, k ≤ l1.length ∧ i = .int .i64 k ∧ Hid (Below w.heap.size w wr)) (fun i _ => l1.length - (intOf i).toNat)
  case atStart => exact ⟨0, Nat.zero_le _, rfl, Lib.hid (Below.refl _ _)⟩
  case round =>
    obtain ⟨k, hk, rfl, hbl⟩ := hrel
    by_cases hlt : k < l1.length
    · have hlt2 : k < l2.length := by omega
      obtain ⟨b1, o1, rfl, hb1, hc1⟩ := Q.reads_sp H1.out.row (by omega)
      obtain ⟨b2, o2, rfl, hb2, hc2⟩ := Q.reads_sp H2.out.row (by omega)
      obtain ⟨s0, s1, s2, s3, s4, s5, s6, s7⟩ := hc1 k hlt
      obtain ⟨t0, t1, t2, t3, t4, t5, t6, t7⟩ := hc2 k hlt2
      have SC := fun (W : World) (h : Below w.heap.size w W) => samesp_any l1[k] l2[k] B W ((H1.out.el _ (List.getElem_mem hlt)).below h hB) ((H2.out.el _ (List.getElem_mem hlt2)).below h hB) (Nat.le_trans hB h.size) (EQ.out k hlt hlt2) (HOK.out _ (List.getElem_mem hlt))
      have CELL : Hid (∀ W, Below w.heap.size w W → (W.cell? ⟨b1, o1 + k * 8, none⟩ = some (.slice l1[k].m.aw l1[k].m.u.words.length l1[k].m.cw) ∧ W.cell? ⟨b1, o1 + k * 8 + 1, none⟩ = some (.slice l1[k].m.ac l1[k].m.u.chs.length l1[k].m.cc) ∧ W.cell? ⟨b1, o1 + k * 8 + 2, none⟩ = some (.int .i64 l1[k].m.u.cl) ∧ W.cell? ⟨b1, o1 + k * 8 + 3, none⟩ = some (.int .i64 l1[k].m.u.af) ∧ W.cell? ⟨b1, o1 + k * 8 + 4, none⟩ = some (.int .i64 l1[k].m.u.up) ∧ W.cell? ⟨b1, o1 + k * 8 + 5, none⟩ = some (.int .i64 l1[k].be) ∧ W.cell? ⟨b1, o1 + k * 8 + 6, none⟩ = some (.int .i64 l1[k].en) ∧ W.cell? ⟨b1, o1 + k * 8 + 7, none⟩ = some (.bool l1[k].co) ∧ W.cell? ⟨b2, o2 + k * 8, none⟩ = some (.slice l2[k].m.aw l2[k].m.u.words.length l2[k].m.cw) ∧ W.cell? ⟨b2, o2 + k * 8 + 1, none⟩ = some (.slice l2[k].m.ac l2[k].m.u.chs.length l2[k].m.cc) ∧ W.cell? ⟨b2, o2 + k * 8 + 2, none⟩ = some (.int .i64 l2[k].m.u.cl) ∧ W.cell? ⟨b2, o2 + k * 8 + 3, none⟩ = some (.int .i64 l2[k].m.u.af) ∧ W.cell? ⟨b2, o2 + k * 8 + 4, none⟩ = some (.int .i64 l2[k].m.u.up) ∧ W.cell? ⟨b2, o2 + k * 8 + 5, none⟩ = some (.int .i64 l2[k].be) ∧ W.cell? ⟨b2, o2 + k * 8 + 6, none⟩ = some (.int .i64 l2[k].en) ∧ W.cell? ⟨b2, o2 + k * 8 + 7, none⟩ = some (.bool l2[k].co))) := Lib.hid (fun W h => ⟨(h.cell (p := ⟨b1, _, none⟩) (Nat.lt_of_lt_of_le hb1 hB)).trans s0, (h.cell (p := ⟨b1, _, none⟩) (Nat.lt_of_lt_of_le hb1 hB)).trans s1, (h.cell (p := ⟨b1, _, none⟩) (Nat.lt_of_lt_of_le hb1 hB)).trans s2, (h.cell (p := ⟨b1, _, none⟩) (Nat.lt_of_lt_of_le hb1 hB)).trans s3, (h.cell (p := ⟨b1, _, none⟩) (Nat.lt_of_lt_of_le hb1 hB)).trans s4, (h.cell (p := ⟨b1, _, none⟩) (Nat.lt_of_lt_of_le hb1 hB)).trans s5, (h.cell (p := ⟨b1, _, none⟩) (Nat.lt_of_lt_of_le hb1 hB)).trans s6, (h.cell (p := ⟨b1, _, none⟩) (Nat.lt_of_lt_of_le hb1 hB)).trans s7, (h.cell (p := ⟨b2, _, none⟩) (Nat.lt_of_lt_of_le hb2 hB)).trans t0, (h.cell (p := ⟨b2, _, none⟩) (Nat.lt_of_lt_of_le hb2 hB)).trans t1, (h.cell (p := ⟨b2, _, none⟩) (Nat.lt_of_lt_of_le hb2 hB)).trans t2, (h.cell (p := ⟨b2, _, none⟩) (Nat.lt_of_lt_of_le hb2 hB)).trans t3, (h.cell (p := ⟨b2, _, none⟩) (Nat.lt_of_lt_of_le hb2 hB)).trans t4, (h.cell (p := ⟨b2, _, none⟩) (Nat.lt_of_lt_of_le hb2 hB)).trans t5, (h.cell (p := ⟨b2, _, none⟩) (Nat.lt_of_lt_of_le hb2 hB)).trans t6, (h.cell (p := ⟨b2, _, none⟩) (Nat.lt_of_lt_of_le hb2 hB)).trans t7⟩)
      simp only [Q.Sm.cells] at SC
      replace SC := Lib.hid SC
      have q1 : (0 : Int) ≤ (k : Int) := by omega
      have q2 : (k : Int) < (l1.length : Int) := by omega
      have q3 : (k : Int) < (l2.length : Int) := by omega
      clear hc1 hc2 s0 s1 s2 s3 s4 s5 s6 s7 t0 t1 t2 t3 t4 t5 t6 t7
      generalize l1[k].m.aw = f0 at *
      generalize l1[k].m.u.words.length = f1 at *
      generalize l1[k].m.cw = f2 at *
      generalize l1[k].m.ac = f3 at *
      generalize l1[k].m.u.chs.length = f4 at *
      generalize l1[k].m.cc = f5 at *
      generalize l1[k].m.u.cl = f6 at *
      generalize l1[k].m.u.af = f7 at *
      generalize l1[k].m.u.up = f8 at *
      generalize l1[k].be = f9 at *
      generalize l1[k].en = f10 at *
      generalize l1[k].co = f11 at *
      generalize l2[k].m.aw = g0 at *
      generalize l2[k].m.u.words.length = g1 at *
      generalize l2[k].m.cw = g2 at *
      generalize l2[k].m.ac = g3 at *
      generalize l2[k].m.u.chs.length = g4 at *
      generalize l2[k].m.cc = g5 at *
      generalize l2[k].m.u.cl = g6 at *
      generalize l2[k].m.u.af = g7 at *
      generalize l2[k].m.u.up = g8 at *
      generalize l2[k].be = g9 at *
      generalize l2[k].en = g10 at *
      generalize l2[k].co = g11 at *
      go_wp2_with fail
      refine wp_region_held_drew (S := fun w' => (w'.cell? ⟨b1, o1 + k * 8, none⟩ = some (.slice f0 f1 f2) ∧ w'.cell? ⟨b1, o1 + k * 8 + 1, none⟩ = some (.slice f3 f4 f5) ∧ w'.cell? ⟨b1, o1 + k * 8 + 2, none⟩ = some (.int .i64 f6) ∧ w'.cell? ⟨b1, o1 + k * 8 + 3, none⟩ = some (.int .i64 f7) ∧ w'.cell? ⟨b1, o1 + k * 8 + 4, none⟩ = some (.int .i64 f8) ∧ w'.cell? ⟨b1, o1 + k * 8 + 5, none⟩ = some (.int .i64 f9) ∧ w'.cell? ⟨b1, o1 + k * 8 + 6, none⟩ = some (.int .i64 f10) ∧ w'.cell? ⟨b1, o1 + k * 8 + 7, none⟩ = some (.bool f11) ∧ w'.cell? ⟨b2, o2 + k * 8, none⟩ = some (.slice g0 g1 g2) ∧ w'.cell? ⟨b2, o2 + k * 8 + 1, none⟩ = some (.slice g3 g4 g5) ∧ w'.cell? ⟨b2, o2 + k * 8 + 2, none⟩ = some (.int .i64 g6) ∧ w'.cell? ⟨b2, o2 + k * 8 + 3, none⟩ = some (.int .i64 g7) ∧ w'.cell? ⟨b2, o2 + k * 8 + 4, none⟩ = some (.int .i64 g8) ∧ w'.cell? ⟨b2, o2 + k * 8 + 5, none⟩ = some (.int .i64 g9) ∧ w'.cell? ⟨b2, o2 + k * 8 + 6, none⟩ = some (.int .i64 g10) ∧ w'.cell? ⟨b2, o2 + k * 8 + 7, none⟩ = some (.bool g11)) ∧ Below w.heap.size w w') (by kernel_rfl) ⟨CELL.out _ (hbl.out.drew), hbl.out.drew⟩ (fun hHeld => ?_)
      obtain ⟨wd, hwd⟩ : ∃ W, wr.drew = W := ⟨_, rfl⟩
      rw [hwd] at hHeld ⊢
      clear hwd
      refine tk 0 rfl (by kernel_rfl) hHeld (fun _ _ _ h => h) (v := ?_) ?_ ?_
      rotate_left 1
      · (intro w hSw; (try dsimp only at hSw); (try simp only [List.getElem_toArray, List.getElem_cons_succ, List.getElem_cons_zero]); go_simp) <;> (with_reducible rfl)
      try simp only [List.getElem_toArray, List.getElem_cons_succ, List.getElem_cons_zero, Act.put, List.setIfInBounds_toArray, List.set_cons_zero, List.set_cons_succ]
      refine tk 1 rfl (by kernel_rfl) hHeld (fun _ _ _ h => h) (v := ?_) ?_ ?_
      rotate_left 1
      · (intro w hSw; (try dsimp only at hSw); (try simp only [List.getElem_toArray, List.getElem_cons_succ, List.getElem_cons_zero]); go_simp) <;> (with_reducible rfl)
      try simp only [List.getElem_toArray, List.getElem_cons_succ, List.getElem_cons_zero, Act.put, List.setIfInBounds_toArray, List.set_cons_zero, List.set_cons_succ]
      refine tk 2 rfl (by kernel_rfl) hHeld (fun _ _ _ h => h) (v := ?_) ?_ ?_
      rotate_left 1
      · (intro w hSw; (try dsimp only at hSw); (try simp only [List.getElem_toArray, List.getElem_cons_succ, List.getElem_cons_zero]); go_simp) <;> (with_reducible rfl)
      try simp only [List.getElem_toArray, List.getElem_cons_succ, List.getElem_cons_zero, Act.put, List.setIfInBounds_toArray, List.set_cons_zero, List.set_cons_succ]
      refine tk 3 rfl (by kernel_rfl) hHeld (fun _ _ _ h => h) (v := ?_) ?_ ?_
      rotate_left 1
      · (intro w hSw; (try dsimp only at hSw); (try simp only [List.getElem_toArray, List.getElem_cons_succ, List.getElem_cons_zero]); go_simp) <;> (with_reducible rfl)
      try simp only [List.getElem_toArray, List.getElem_cons_succ, List.getElem_cons_zero, Act.put, List.setIfInBounds_toArray, List.set_cons_zero, List.set_cons_succ]
      refine tk 4 rfl (by kernel_rfl) hHeld (fun _ _ _ h => h) (v := ?_) ?_ ?_
      rotate_left 1
      · (intro w hSw; (try dsimp only at hSw); (try simp only [List.getElem_toArray, List.getElem_cons_succ, List.getElem_cons_zero]); go_simp) <;> (with_reducible rfl)
      try simp only [List.getElem_toArray, List.getElem_cons_succ, List.getElem_cons_zero, Act.put, List.setIfInBounds_toArray, List.set_cons_zero, List.set_cons_succ]
      refine tk 5 rfl (by kernel_rfl) hHeld (fun _ _ _ h => h) (v := ?_) ?_ ?_
      rotate_left 1
      · (intro w hSw; (try dsimp only at hSw); (try simp only [List.getElem_toArray, List.getElem_cons_succ, List.getElem_cons_zero]); go_simp) <;> (with_reducible rfl)
      try simp only [List.getElem_toArray, List.getElem_cons_succ, List.getElem_cons_zero, Act.put, List.setIfInBounds_toArray, List.set_cons_zero, List.set_cons_succ]
      refine tk 6 rfl (by kernel_rfl) hHeld (fun _ _ _ h => h) (v := ?_) ?_ ?_
      rotate_left 1
      · (intro w hSw; (try dsimp only at hSw); (try simp only [List.getElem_toArray, List.getElem_cons_succ, List.getElem_cons_zero]); go_simp) <;> (with_reducible rfl)
      try simp only [List.getElem_toArray, List.getElem_cons_succ, List.getElem_cons_zero, Act.put, List.setIfInBounds_toArray, List.set_cons_zero, List.set_cons_succ]
      refine tk 7 rfl (by kernel_rfl) hHeld (fun _ _ _ h => h) (v := ?_) ?_ ?_
      rotate_left 1
      · (intro w hSw; (try dsimp only at hSw); (try simp only [List.getElem_toArray, List.getElem_cons_succ, List.getElem_cons_zero]); go_simp) <;> (with_reducible rfl)
      try simp only [List.getElem_toArray, List.getElem_cons_succ, List.getElem_cons_zero, Act.put, List.setIfInBounds_toArray, List.set_cons_zero, List.set_cons_succ]
      refine wpAnyH_ready (rs := [8]) (by kernel_rfl) (by simp) (AllReadyH.cons rfl (fun K hK => ?_) AllReadyH.nil)
      simp only [List.getElem_toArray, List.getElem_cons_succ, List.getElem_cons_zero]
      go_simp
      go_at_call 20
      refine (SC.out _ hHeld.2).mono ?_
      rintro e w' ⟨rfl, b9⟩
      try go_wp2_with fail
      have b10 := hHeld.2.trans (b9.mono hHeld.2.size)
      refine hK.out _ _ ⟨CELL.out _ b10, b10⟩ (fun hHeld => ?_)
      clear hK K
      try simp only [List.getElem_toArray, List.getElem_cons_succ, List.getElem_cons_zero, Act.put, List.setIfInBounds_toArray, List.set_cons_zero, List.set_cons_succ]
      refine tk 9 rfl (by kernel_rfl) hHeld (fun _ _ _ h => h) (v := ?_) ?_ ?_
      rotate_left 1
      · (intro w hSw; (try dsimp only at hSw); (try simp only [List.getElem_toArray, List.getElem_cons_succ, List.getElem_cons_zero]); go_simp) <;> (with_reducible rfl)
      try simp only [List.getElem_toArray, List.getElem_cons_succ, List.getElem_cons_zero, Act.put, List.setIfInBounds_toArray, List.set_cons_zero, List.set_cons_succ]
      refine wpAnyH_done (by kernel_rfl) ?_ _
      go_wp2_with fail
      exact ⟨⟨k + 1, hlt, by go_num, Lib.hid hHeld.2⟩, by simp [intOf]; omega⟩
    · obtain rfl : k = l1.length := by omega
      have q4 : decide (l1.length < l1.length) = false := decide_eq_false (by omega)
      go_wp2_with fail
      go_ret
      exact ⟨rfl, hbl.out⟩

set_option maxRecDepth 100000 in
set_option maxHeartbeats 3000000 in
theorem same_any (p q : Q.Qm) (B : Nat) (w : World) (h1 : Q.QIn w B p) (h2 : Q.QIn w B q) (hB : B ≤ w.heap.size) (he : p.a = q.a) (hok : p.cur.u.Ok) (hoks : ∀ m ∈ p.items, m.u.Ok) (hl : p.items.length ≤ maxLen) :
    Calls Try.prog 16 #[.agg p.cells.toArray, .agg q.cells.toArray] w fun e w' => e = .returned (.bool true) ∧ Below w.heap.size w w' := by
  obtain ⟨ck, rt, sp, m, be, en, l1, a1, c1⟩ := p
  obtain ⟨ck2, rt2, sp2, m2, be2, en2, l2, a2, c2⟩ := q
  simp only [Q.Qm.a, Q.Qa.mk.injEq] at he
  obtain ⟨rfl, rfl, rfl, hu, rfl, rfl, hits⟩ := he
  obtain ⟨i1, j1, _⟩ := h1
  obtain ⟨i2, j2, _⟩ := h2
  simp only at i1 j1 i2 j2 hok hoks hl
  have SU := fun (W : World) (h : Below w.heap.size w W) => sameut_any m m2 B W (i1.below h hB) (i2.below h hB) (Nat.le_trans hB h.size) hu hok.1 hok.2.1 hok.2.2
  have SS := fun (W : World) (h : Below w.heap.size w W) => sameuts_any a1 a2 c1 c2 B l1 l2 W (j1.below h hB) (j2.below h hB) (Nat.le_trans hB h.size) hits hl hoks
  simp only [Q.Um.cells] at SU
  replace SU := Lib.hid SU
  replace SS := Lib.hid SS
  simp only [Q.Qm.cells]
  unfold maxLen at hl
  clear i1 j1 i2 j2 hok hoks hu hits
  generalize m.aw = f0 at *
  generalize m.u.words.length = f1 at *
  generalize m.cw = f2 at *
  generalize m.ac = f3 at *
  generalize m.u.chs.length = f4 at *
  generalize m.cc = f5 at *
  generalize m.u.cl = f6 at *
  generalize m.u.af = f7 at *
  generalize m.u.up = f8 at *
  generalize m2.aw = g0 at *
  generalize m2.u.words.length = g1 at *
  generalize m2.cw = g2 at *
  generalize m2.ac = g3 at *
  generalize m2.u.chs.length = g4 at *
  generalize m2.cc = g5 at *
  generalize m2.u.cl = g6 at *
  generalize m2.u.af = g7 at *
  generalize m2.u.up = g8 at *
  generalize l1.length = n1 at *
  generalize l2.length = n2 at *
  have B0 := Lib.hid ((below_box w (.cells #[.int .i64 ck, .int .i64 rt, .bool sp, .slice f0 f1 f2, .slice f3 f4 f5, .int .i64 f6, .int .i64 f7, .int .i64 f8, .int .i64 be, .int .i64 en, .slice a1 n1 c1] 28)).alloc (by simp) (.cells #[.int .i64 ck, .int .i64 rt, .bool sp, .slice g0 g1 g2, .slice g3 g4 g5, .int .i64 g6, .int .i64 g7, .int .i64 g8, .int .i64 be, .int .i64 en, .slice a2 n2 c2] 28))
  have V0 : Hid (((w.alloc (.cells #[.int .i64 ck, .int .i64 rt, .bool sp, .slice f0 f1 f2, .slice f3 f4 f5, .int .i64 f6, .int .i64 f7, .int .i64 f8, .int .i64 be, .int .i64 en, .slice a1 n1 c1] 28)).alloc (.cells #[.int .i64 ck, .int .i64 rt, .bool sp, .slice g0 g1 g2, .slice g3 g4 g5, .int .i64 g6, .int .i64 g7, .int .i64 g8, .int .i64 be, .int .i64 en, .slice a2 n2 c2] 28)).heap[w.heap.size]? = some (.cells #[.int .i64 ck, .int .i64 rt, .bool sp, .slice f0 f1 f2, .slice f3 f4 f5, .int .i64 f6, .int .i64 f7, .int .i64 f8, .int .i64 be, .int .i64 en, .slice a1 n1 c1] 28 (0, 0))) := Lib.hid (heap_old2 _ _ (heap_alloc_new w _))
  have V1' := heap_alloc_new (w.alloc (.cells #[.int .i64 ck, .int .i64 rt, .bool sp, .slice f0 f1 f2, .slice f3 f4 f5, .int .i64 f6, .int .i64 f7, .int .i64 f8, .int .i64 be, .int .i64 en, .slice a1 n1 c1] 28)) (.cells #[.int .i64 ck, .int .i64 rt, .bool sp, .slice g0 g1 g2, .slice g3 g4 g5, .int .i64 g6, .int .i64 g7, .int .i64 g8, .int .i64 be, .int .i64 en, .slice a2 n2 c2] 28)
  rw [World.size_alloc] at V1'
  have V1 := Lib.hid V1'
  have SU1 := Lib.hid (SU.out _ B0.out)
  have hs0 : w.heap.size < ((w.alloc (.cells #[.int .i64 ck, .int .i64 rt, .bool sp, .slice f0 f1 f2, .slice f3 f4 f5, .int .i64 f6, .int .i64 f7, .int .i64 f8, .int .i64 be, .int .i64 en, .slice a1 n1 c1] 28)).alloc (.cells #[.int .i64 ck, .int .i64 rt, .bool sp, .slice g0 g1 g2, .slice g3 g4 g5, .int .i64 g6, .int .i64 g7, .int .i64 g8, .int .i64 be, .int .i64 en, .slice a2 n2 c2] 28)).heap.size := by simp <;> omega
  have hs1 : w.heap.size + 1 < ((w.alloc (.cells #[.int .i64 ck, .int .i64 rt, .bool sp, .slice f0 f1 f2, .slice f3 f4 f5, .int .i64 f6, .int .i64 f7, .int .i64 f8, .int .i64 be, .int .i64 en, .slice a1 n1 c1] 28)).alloc (.cells #[.int .i64 ck, .int .i64 rt, .bool sp, .slice g0 g1 g2, .slice g3 g4 g5, .int .i64 g6, .int .i64 g7, .int .i64 g8, .int .i64 be, .int .i64 en, .slice a2 n2 c2] 28)).heap.size := by simp <;> omega
  clear V1' SU
  go_enter Try.func16, Try.ntmps16
  go_wp2_with fail
  refine SU1.out.mono ?_
  rintro e w1 ⟨rfl, b1⟩
  have x10 := cell_of_block_ (i := 10) ((b1.block w.heap.size hs0).trans V0.out)
  have y10 := cell_of_block_ (i := 10) ((b1.block (w.heap.size + 1) hs1).trans V1.out)
  have B1 := Lib.hid (B0.out.trans (b1.mono B0.out.size))
  have SS1 := Lib.hid (SS.out _ B1.out)
  simp at x10 y10
  clear b1 SS SU1
  go_wp2_with fail
  refine SS1.out.mono ?_
  rintro e w2 ⟨rfl, b2⟩
  have B2 := Lib.hid (B1.out.trans (b2.mono B1.out.size))
  clear b2
  go_wp2_with fail
  go_ret
  exact ⟨ret_bool (by simp), B2.out⟩
end Go.Proofs.Ytfjkelngdljikaa
