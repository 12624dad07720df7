/-
  The walks of layer 17: Apply. By an AI agent.
-/
import Derived.Test.YteakiielcmgkeaaSlc
import Derived.Test.YteakiielcmgkeaaOwn
import Derived.Test.YteakiielcmgkeaaRpl
import Derived.Test.YteakiielcmgkeaaPn
import Derived.Test.YteakiielcmgkeaaPlain2
namespace Go.Proofs.Yteakiielcmgkeaa
set_option linter.unusedSimpArgs false
set_option linter.unusedVariables false
open Go.RowKit Go.Joins

/-- What Apply returns: glyphs, and a number. -/
def R.applyX (l : List R.G) (c : R.Cx) : List R.G × Int :=
  if c.kind ≠ 3 then ([], 9) else if c.col < 0 ∨ c.count < 0 ∨ 264 < c.col ∨ max 0 ((l.length : Int) - c.col) < c.count then ([], 2) else (R.trimEnd R.bl (R.body R.sp l ⟨c.col, c.count, c.gl⟩), 0)
def R.AOut (r : List R.G × Int) (w w' : World) (e : Ending) : Prop := ∃ v, e = .returned (.tuple #[v, .int .i64 r.2]) ∧ w'.ownsRow w.heap.size 33 3 v r.1.length (R.gcs r.1) ∧ Below w.heap.size w w'
def R.lenV : Value → Nat
  | .slice _ n _ => n
  | _ => 0
theorem R.gcs_app (l m : List R.G) : R.gcs (l ++ m) = R.gcs l ++ R.gcs m := by simp [R.gcs]
theorem R.gcs_sp (l : List R.G) : R.gcs (l ++ [R.sp]) = R.gcs l ++ [.string ⟨#[32]⟩, .bool false, .int .i64 0] := by rw [R.gcs_app]; rfl
theorem R.pad_succ (l : List R.G) {n m : Nat} (h : m ≤ n) : l ++ List.replicate (n + 1 - m) R.sp = (l ++ List.replicate (n - m) R.sp) ++ [R.sp] := by
  rw [show n + 1 - m = (n - m) + 1 by omega, List.replicate_succ', List.append_assoc]
theorem R.applyX_bad {l : List R.G} {row col count to : Int} {gl : List R.G} (h : col < 0 ∨ count < 0 ∨ 264 < col ∨ max 0 ((l.length : Int) - col) < count) : R.applyX l ⟨3, row, col, count, to, gl⟩ = ([], 2) := by
  unfold R.applyX
  rw [if_neg (by simp), if_pos h]
theorem R.applyX_kind {l : List R.G} {kind row col count to : Int} {gl : List R.G} (h : kind ≠ 3) : R.applyX l ⟨kind, row, col, count, to, gl⟩ = ([], 9) := by
  unfold R.applyX
  rw [if_pos h]
theorem R.applyX_good {l : List R.G} {row to : Int} {k d : Nat} {gl : List R.G} (hk : k ≤ 264) (hd : (d : Int) ≤ max 0 ((l.length : Int) - k)) :
    R.applyX l ⟨3, row, k, d, to, gl⟩ = (R.trimEnd R.bl (l.take k ++ List.replicate (k - l.length) R.sp ++ gl ++ l.drop (k + d)), 0) := by
  unfold R.applyX
  dsimp only
  rw [if_neg (by simp), if_neg (by omega)]
  unfold R.body
  simp only [Int.toNat_natCast]
  rw [show ((k : Int) + (d : Int)).toNat = k + d by omega]

/-- The block that a change by value is boxed into. -/
abbrev R.box (kind row col count to : Int) (sl : Value) : Obj := .cells #[.int .i64 kind, .int .i64 row, .int .i64 col, .int .i64 count, .int .i64 to, sl] 29
section
variable (A Ag : Option Addr) (c cg B : Nat) (l gl : List R.G) (kind row col count to : Int) (w : World)
theorem apply_kind (hk : kind ≠ 3) : Calls Try.prog 22 #[.slice A l.length c, .agg #[.int .i64 kind, .int .i64 row, .int .i64 col, .int .i64 count, .int .i64 to, .slice Ag gl.length cg]] w fun e w' => R.AOut ([], 9) w w' e := by
  have h1 : (kind != 3) = true := by simp [hk]
  have b0 : Below w.heap.size w (w.alloc (R.box kind row col count to (.slice Ag gl.length cg))) := (Below.refl _ _).alloc (Nat.le_refl _) _
  have B0 := Lib.hid b0
  clear b0
  go_enter Try.func22, Try.ntmps22
  go_wp2_with fail
  go_ret2
  exact ⟨_, rfl, World.ownsRow_nil _ _ _ _, B0.out⟩
theorem apply_bad (hl : l.length ≤ 1000) (hc1 : -9223372036854775808 ≤ col) (hc2 : col ≤ 9223372036854775807) (hbad : col < 0 ∨ count < 0 ∨ 264 < col ∨ max 0 ((l.length : Int) - col) < count) : Calls Try.prog 22 #[.slice A l.length c, .agg #[.int .i64 3, .int .i64 row, .int .i64 col, .int .i64 count, .int .i64 to, .slice Ag gl.length cg]] w fun e w' => R.AOut ([], 2) w w' e := by
  have b0 : Below w.heap.size w (w.alloc (R.box 3 row col count to (.slice Ag gl.length cg))) := (Below.refl _ _).alloc (Nat.le_refl _) _
  have B0 := Lib.hid b0
  have HB := Lib.hid hbad
  clear b0 hbad
  by_cases h1 : col < 0
  · clear HB
    go_enter Try.func22, Try.ntmps22
    go_wp2_with fail
    go_ret2
    exact ⟨_, rfl, World.ownsRow_nil _ _ _ _, B0.out⟩
  · by_cases h2 : count < 0
    · clear HB
      go_enter Try.func22, Try.ntmps22
      go_wp2_with fail
      go_ret2
      exact ⟨_, rfl, World.ownsRow_nil _ _ _ _, B0.out⟩
    · by_cases h3 : 264 < col
      · clear HB
        go_enter Try.func22, Try.ntmps22
        go_wp2_with fail
        go_ret2
        exact ⟨_, rfl, World.ownsRow_nil _ _ _ _, B0.out⟩
      · have h4 : max 0 ((l.length : Int) - col) < count := by rcases HB.out with h | h | h | h <;> first | exact h | exact absurd h (by omega)
        clear HB
        go_enter Try.func22, Try.ntmps22
        go_wp2_with fail
        go_ret2
        exact ⟨_, rfl, World.ownsRow_nil _ _ _ _, B0.out⟩
end
set_option maxRecDepth 100000 in
set_option maxHeartbeats 8000000 in
theorem apply_good (A Ag : Option Addr) (c cg B : Nat) (l gl : List R.G) (row to : Int) (k d : Nat) (w : World) (hr : Reads w B 3 A l.length (R.gcs l)) (hg : Reads w B 3 Ag gl.length (R.gcs gl)) (hB : B ≤ w.heap.size) (hl : l.length ≤ 500) (hc : l.length ≤ c) (hgl : gl.length ≤ 200) (hk : k ≤ 264) (hd : (d : Int) ≤ max 0 ((l.length : Int) - k)) :
    Calls Try.prog 22 #[.slice A l.length c, .agg #[.int .i64 3, .int .i64 row, .int .i64 k, .int .i64 d, .int .i64 to, .slice Ag gl.length cg]] w fun e w' => R.AOut (R.trimEnd R.bl (l.take k ++ List.replicate (k - l.length) R.sp ++ gl ++ l.drop (k + d)), 0) w w' e := by
  obtain ⟨i0, hi0, hz0, hz1, hz2⟩ := info_parts infoG
  obtain ⟨m, hm⟩ : ∃ m, min k l.length = m := ⟨_, rfl⟩
  have em : min (k : Int) (l.length : Int) = (m : Int) := by omega
  have b0 : Below w.heap.size w (w.alloc (R.box 3 row k d to (.slice Ag gl.length cg))) := (Below.refl _ _).alloc (Nat.le_refl _) _
  have V0 : (w.alloc (R.box 3 row k d to (.slice Ag gl.length cg))).heap[w.heap.size]? = some (R.box 3 row k d to (.slice Ag gl.length cg)) := heap_alloc_new w _
  have etk : (l.take m).length = m := by rw [List.length_take]; omega
  have CL := clone_any A c B (l.take m) (w.alloc (R.box 3 row k d to (.slice Ag gl.length cg))) (by rw [etk]; exact (hr.below b0 hB).take_gl (by omega)) (Nat.le_trans hB b0.size) (by rw [etk]; omega)
  rw [etk] at CL
  have CL := Lib.hid CL
  have SL := slice_upto A (l := l.length) (n := m) (by omega) hc
  have HR := Lib.hid hr
  have HG := Lib.hid hg
  have B0 := Lib.hid b0
  have HV := Lib.hid V0
  have sb : w.heap.size < (w.alloc (R.box 3 row k d to (.slice Ag gl.length cg))).heap.size := by simp
  have HM := Lib.hid hm
  have HTM : Hid (l.take m = l.take k) := Lib.hid (by rw [← hm]; rcases Nat.le_total k l.length with h | h <;> simp [List.take_of_length_le, Nat.min_eq_left, Nat.min_eq_right, h])
  have hml : m ≤ l.length := by omega
  have hmk : m ≤ k := by omega
  clear hr hg b0 V0 hm etk
  go_enter Try.func22, Try.ntmps22
  go_wp2_with fail
  refine CL.out.mono ?_
  rintro e w1 ⟨v1, rfl, own1, b1⟩
  obtain ⟨N, hN⟩ : ∃ N, w.heap.size = N := ⟨_, rfl⟩
  have HN := Lib.hid hN
  have B1 := Lib.hid (B0.out.trans (b1.mono B0.out.size))
  have V1 := Lib.hid ((b1.block w.heap.size sb).trans HV.out)
  have OWN1 := Lib.hid (own_lower (base' := N + 1) own1 (by rw [← hN]; simp))
  have etk : (l.take m).length = m := by rw [List.length_take]; omega
  rw [etk] at OWN1
  have hs1 : N + 1 ≤ w1.heap.size := by have := b1.size; rw [← hN]; simp at this; omega
  rw [hN] at B1 V1 ⊢
  rw [hN] at hB
  clear CL own1 b1 HV B0 sb em SL hN etk
  go_wp2_with fail
  go_loopw [6] (fun v wr => ∃ n : Nat, m ≤ n ∧ n ≤ k ∧ Hid (wr.ownsRow (N + 1) 33 3 v n (R.gcs (l.take m ++ List.replicate (n - m) R.sp))) ∧ Hid (wr.heap[N]? = some (R.box 3 row k d to (.slice Ag gl.length cg))) ∧ Hid (Below N w wr) ∧ N + 1 ≤ wr.heap.size) (fun v _ => k - R.lenV v)
  case atStart => exact ⟨m, Nat.le_refl _, hmk, Lib.hid (by simpa using OWN1.out), V1, B1, hs1⟩
  case round =>
    clear OWN1 V1 B1 hs1
    obtain ⟨n, hn1, hn2, hown, hv, hbl, hsz⟩ := hrel
    obtain ⟨A3, c3, rfl, _, _⟩ := own_reads_cap hown.out
    have hc2 := cell_of_block_ (i := 2) hv.out
    have hc3 := cell_of_block_ (i := 3) hv.out
    have hc5 := cell_of_block_ (i := 5) hv.out
    simp at hc2 hc3 hc5
    by_cases hlt : n < k
    · have HS := Lib.hid (R.pad_succ (l.take m) hn1)
      have HNE : Hid (∀ g, (Value.slice A3 n c3).ownBlock = some g → N ≤ g ∧ N ≠ g) := Lib.hid (fun g e => by have := (hown.out.lt g e).1; omega)
      go_wp2_with (at_builtin; refine wpList_append_any _ rfl (.tmp 43) (.tmp 45) 22 rfl (N + 1) 33 i0 _ 3 32 Try.underlying22 hi0 hz0 hz1 hz2 rfl (by decide) (.slice A3 n c3) n _ rfl (hown.out.alloc _) _ (some ⟨wr.heap.size, 0, none⟩) 1 1 [.string ⟨#[32]⟩, .bool false, .int .i64 0] rfl (reads_gl3 wr ⟨#[32]⟩) (by simp [Value.oneCell']) (by simp only [maxLen]; omega) (by omega) (Nat.le_trans hsz (by simp)) ?_; intro v3 W3 hown3 hg3 hn3)
      obtain ⟨A4, c4, rfl, _, _⟩ := own_reads_cap hown3
      refine ⟨⟨n + 1, by omega, hlt, Lib.hid (by rw [HS.out, R.gcs_sp]; exact hown3), Lib.hid ?_, Lib.hid ((hbl.out.alloc (Nat.le_of_succ_le hsz) _).grown hg3 (Nat.le_trans (Nat.le_of_succ_le hsz) (by simp)) (fun b e => (HNE.out b e).1)), Nat.le_trans hsz (Nat.le_trans (by simp) hg3.size)⟩, by simp [R.lenV]; omega⟩
      rw [hg3.block N (by simp; omega) (fun e => (HNE.out N e.symm).2 rfl)]
      exact heap_old2 wr _ hv.out
    · have hne : n = k := by omega
      have q2 : decide (n < k) = false := decide_eq_false hlt
      have HRP : Hid (l.take m ++ List.replicate (n - m) R.sp = l.take k ++ List.replicate (k - l.length) R.sp) := Lib.hid (by rw [HTM.out]; congr 2; have := HM.out; omega)
      have hbr := hbl.out
      rw [← HN.out] at hbr
      have HGr := Lib.hid ((HG.out.below hbl.out hB))
      have HBr := Lib.hid hbr
      have HNE := Lib.hid (fun g (e : (Value.slice A3 n c3).ownBlock = some g) => (hown.out.lt g e).1)
      have HKN := Lib.hid hne
      rw [HRP.out] at hown
      have hgone := R.gcs_one gl
      have HG1 := Lib.hid hgone
      clear hne hgone hbr HG
      by_cases hkl : k < l.length
      · have hkd : k + d ≤ l.length := by omega
        obtain ⟨A5, sl5, rd5⟩ := slice_from A l (c := c) hkd hc
        have sl5' : ∀ w' : World, (Instr.sliceAt 22 (.slice A l.length c) (some (.int .i64 ((k : Int) + (d : Int)))) none none).run Try.prog w' = .ok (.slice A5 (l.length - (k + d)) (c - (k + d))) w' := fun w' => by have := sl5 w'; rw [Int.natCast_add] at this; exact this
        have RD5 := Lib.hid rd5
        clear sl5 rd5
        go_wp2_with (first
          | (at_builtin; refine wpList_append_any _ rfl (.tmp 47) (.tmp 49) 22 rfl (N + 1) 33 i0 _ 3 32 Try.underlying22 hi0 hz0 hz1 hz2 rfl (by decide) (.slice A3 n c3) n _ rfl hown.out _ Ag gl.length cg (R.gcs gl) rfl HGr.out HG1.out (by simp only [maxLen]; omega) (by omega) hsz ?_; intro v4 W4 hown4 hg4 hn4; (have V4 := (hg4.block N (by omega) (fun e => by have := HNE.out N e.symm; omega)).trans hv.out); (have B4 := Lib.hid (hbl.out.grown hg4 (Nat.le_of_succ_le hsz) (fun b e => by have := HNE.out b e; omega))); (have hs4 : N + 1 ≤ W4.heap.size := Nat.le_trans hsz hg4.size); (have k2 := cell_of_block_ (i := 2) V4); (have k3 := cell_of_block_ (i := 3) V4); (simp at k2 k3); (have OWN4 := Lib.hid hown4); (clear hown4 hg4 hn4 V4))
          | (at_builtin; refine wpList_append_any _ rfl (.tmp 56) (.tmp 63) 22 rfl (N + 1) 33 i0 _ 3 32 Try.underlying22 hi0 hz0 hz1 hz2 rfl (by decide) v4 (n + gl.length) _ rfl OWN4.out B A5 (l.length - (k + d)) (c - (k + d)) _ rfl (RD5.out _ _ (HR.out.below (HN.out ▸ B4.out) (HN.out ▸ hB))) (R.gcs_one _) (by simp only [maxLen]; omega) (by omega) hs4 ?_; intro v5 W5 hown5 hg5 hn5; (have B5 := Lib.hid (B4.out.grown hg5 (Nat.le_of_succ_le hs4) (fun b e => by have := (OWN4.out.lt b e).1; omega))); (have OWN5 := Lib.hid hown5); (have hs5 : N + 1 ≤ W5.heap.size := Nat.le_trans hs4 hg5.size); (clear hown5 hg5 hn5)))
        obtain ⟨A6, c6, rfl, r6, hc6⟩ := own_reads_cap OWN5.out
        have hX : (l.take k ++ List.replicate (k - l.length) R.sp ++ gl ++ l.drop (k + d)).length = n + gl.length + (l.length - (k + d)) := by simp only [List.length_append, List.length_take, List.length_replicate, List.length_drop]; have := HKN.out; omega
        have TR := trim_any A6 c6 W5.heap.size (l.take k ++ List.replicate (k - l.length) R.sp ++ gl ++ l.drop (k + d)) W5 (by rw [hX, R.gcs_app, R.gcs_app]; exact r6) (Nat.le_refl _) (by rw [hX]; omega) (by rw [hX]; exact hc6)
        rw [hX] at TR
        refine TR.mono ?_
        rintro e w6 ⟨v6, rfl, h1, h2⟩
        have hn5 : w.heap.size ≤ W5.heap.size := by rw [HN.out]; exact Nat.le_of_succ_le hs5
        have OW6 := Lib.hid (own_lower h1 hn5)
        have B6 : Hid (Below w.heap.size w w6) := Lib.hid ((HN.out ▸ B5.out : Below w.heap.size w W5).trans (h2.mono hn5))
        clear TR h1 h2 r6 hX hn5
        go_wp2_with fail
        go_ret2
        exact ⟨_, rfl, OW6.out, B6.out⟩
      · have q3 : decide (k < l.length) = false := decide_eq_false hkl
        go_wp2_with (at_builtin; refine wpList_append_any _ rfl (.tmp 47) (.tmp 49) 22 rfl (N + 1) 33 i0 _ 3 32 Try.underlying22 hi0 hz0 hz1 hz2 rfl (by decide) (.slice A3 n c3) n _ rfl hown.out _ Ag gl.length cg (R.gcs gl) rfl HGr.out HG1.out (by simp only [maxLen]; omega) (by omega) hsz ?_; intro v5 W5 hown5 hg5 hn5; (have V5 := (hg5.block N (by omega) (fun e => by have := HNE.out N e.symm; omega)).trans hv.out); (have B5 := Lib.hid (hbl.out.grown hg5 (Nat.le_of_succ_le hsz) (fun b e => by have := HNE.out b e; omega))); (have hs5 : N + 1 ≤ W5.heap.size := Nat.le_trans hsz hg5.size); (have k2 := cell_of_block_ (i := 2) V5); (simp at k2); (have OWN5 := Lib.hid hown5); (clear hown5 hg5 hn5 V5))
        obtain ⟨A6, c6, rfl, r6, hc6⟩ := own_reads_cap OWN5.out
        have hX : (l.take k ++ List.replicate (k - l.length) R.sp ++ gl ++ l.drop (k + d)).length = n + gl.length := by simp only [List.length_append, List.length_take, List.length_replicate, List.length_drop]; have := HKN.out; omega
        have TR := trim_any A6 c6 W5.heap.size (l.take k ++ List.replicate (k - l.length) R.sp ++ gl ++ l.drop (k + d)) W5 (by rw [hX, show l.drop (k + d) = [] from List.drop_of_length_le (by omega), List.append_nil, R.gcs_app]; exact r6) (Nat.le_refl _) (by rw [hX]; omega) (by rw [hX]; exact hc6)
        rw [hX] at TR
        refine TR.mono ?_
        rintro e w6 ⟨v6, rfl, h1, h2⟩
        have hn5 : w.heap.size ≤ W5.heap.size := by rw [HN.out]; exact Nat.le_of_succ_le hs5
        have OW6 := Lib.hid (own_lower h1 hn5)
        have B6 : Hid (Below w.heap.size w w6) := Lib.hid ((HN.out ▸ B5.out : Below w.heap.size w W5).trans (h2.mono hn5))
        clear TR h1 h2 r6 hX hn5
        go_wp2_with fail
        go_ret2
        exact ⟨_, rfl, OW6.out, B6.out⟩
end Go.Proofs.Yteakiielcmgkeaa
