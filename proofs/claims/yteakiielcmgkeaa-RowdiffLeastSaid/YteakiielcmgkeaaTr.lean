/-
  The walks of layer 17: blank, Clone, Trim. By an AI agent.
-/
import Derived.Test.YteakiielcmgkeaaGl
import Derived.Test.YteakiielcmgkeaaPlain
import Derived.Deep.RegionHeld
import Derived.Lib.LazyBuf
namespace Go.Proofs.Yteakiielcmgkeaa
open Go.RowKit

namespace R
/-- The blank glyph. -/
def sp : G := ⟨⟨#[32]⟩, false, 0⟩
def bl (g : G) : Bool := decide (g = sp)
end R
theorem blank_any (w : World) : Calls Try.prog 31 #[] w fun e w' => e = .returned (.agg #[.string ⟨#[32]⟩, .bool false, .int .i64 0]) ∧ Below w.heap.size w w' := by
  go_enter Try.func31, Try.ntmps31
  go_wp2
  exact bodyPost_ret (v := .agg #[.string ⟨#[32]⟩, .bool false, .int .i64 0]) (by simp [results, Try.results31, go_sem]) rfl ⟨rfl, (Below.refl _ _).alloc (Nat.le_refl _) _⟩
theorem infoG : (Try.prog.info? 33).map (fun i => (i.zero, i.size, i.bytes)) = some (some (.agg #[.string .empty, .bool false, .int .i64 0]), 3, 32) := by kernel_rfl
theorem addr_add_zero (a : Addr) : a.add 0 = a := by unfold Addr.add; simp
theorem own_lower {w : World} {base base' : Nat} {e : TypeId} {size n : Nat} {v : Value} {xs : List Value} (h : w.ownsRow base e size v n xs) (hb : base' ≤ base) : w.ownsRow base' e size v n xs :=
  ⟨h.1, h.2.elim Or.inl (fun ⟨g, cap, cur, hv, hg, r⟩ => Or.inr ⟨g, cap, cur, hv, Nat.le_trans hb hg, r⟩)⟩
/-- A list of glyphs that the call made. -/
def R.Out (l : List R.G) (w w' : World) (e : Ending) : Prop := ∃ v, e = .returned v ∧ w'.ownsRow w.heap.size 33 3 v l.length (R.gcs l) ∧ Below w.heap.size w w'
set_option maxHeartbeats 2000000 in
theorem clone_any (A : Option Addr) (cap B : Nat) (l : List R.G) (w : World) (hr : Reads w B 3 A l.length (R.gcs l)) (hB : B ≤ w.heap.size) (hl : l.length ≤ 1000) :
    Calls Try.prog 27 #[.slice A l.length cap] w fun e w' => R.Out l w w' e := by
  have hq := fun w A n => Lib.run_eql_slice_nil (P := Try.prog) w 22 33 A n cap 0 0 Try.underlying22
  cases A with
  | none =>
    have h0 : l.length = 0 := by
      rcases Nat.eq_zero_or_pos l.length with h | h
      · exact h
      · obtain ⟨ad, h, _⟩ := hr.2 h; cases h
    have : l = [] := List.eq_nil_of_length_eq_zero h0
    subst this
    clear hr h0
    go_enter Try.func27, Try.ntmps27
    go_wp2
    go_ret
    exact ⟨_, rfl, World.ownsRow_nil _ _ _ _, Below.refl _ _⟩
  | some ad =>
    have HR1 := (hr.alloc hB (.cells #[] 33))
    have own0 := World.ownsRow_lit (base := w.heap.size) (e := 33) (size := 3) w #[] 0 (Nat.le_refl _) (by decide) rfl
    have hb0 : Below w.heap.size w (w.alloc (.cells #[] 33)) := (Below.refl _ _).alloc (Nat.le_refl _) _
    obtain ⟨i0, hi0, hz0, hz1, hz2⟩ := info_parts infoG
    clear hr
    go_enter Try.func27, Try.ntmps27
    go_wp2_with (at_builtin; refine wpList_append_any _ rfl (.tmp 5) (.tmp 6) _ rfl w.heap.size 33 i0 _ 3 32 Try.underlying22 hi0 hz0 hz1 hz2 rfl (by omega) (.slice (some ⟨w.heap.size, 0, none⟩) 0 0) 0 [] rfl own0 B (some ad) l.length cap _ rfl HR1 (R.gcs_one _) (by simp only [maxLen]; omega) (by omega) hb0.size ?_; intro v1 w1 hown1 hg1 hat1)
    simp only [Nat.zero_add, List.nil_append] at hown1
    go_ret
    exact ⟨_, rfl, hown1, hb0.grown hg1 hb0.size (own_below own0 (Nat.le_refl _))⟩
theorem Reads.take_gl {w : World} {B : Nat} {A : Option Addr} {l : List R.G} (h : Reads w B 3 A l.length (R.gcs l)) {k : Nat} (hk : k ≤ l.length) : Reads w B 3 A k (R.gcs (l.take k)) := by
  refine ⟨by rw [R.gcs_len, List.length_take, Nat.min_eq_left hk], fun hn => ?_⟩
  obtain ⟨ad, e, hb, hc⟩ := h.2 (by omega)
  refine ⟨ad, e, hb, fun j u hu => hc j u ?_⟩
  have e2 : R.gcs l = R.gcs (l.take k) ++ R.gcs (l.drop k) := by unfold R.gcs; rw [← List.flatMap_append, List.take_append_drop]
  rw [e2, List.getElem?_append_left (List.getElem?_eq_some_iff.1 hu).1]
  exact hu
/-- s[:n]. -/
theorem slice_upto (A : Option Addr) {l c n : Nat} (hn : n ≤ l) (hc : l ≤ c) : ∀ w' : World, (Instr.sliceAt 22 (.slice A l c) none (some (.int .i64 (n : Int))) none).run Try.prog w' = .ok (.slice A n c) w' := by
  intro w'
  have ht : Try.prog.underlying 22 = some (.slice (Try.prog.elem 22)) := by kernel_rfl
  have hs : (sizeOf (Try.prog.elem 22)).run Try.prog w' = .ok 3 w' := by kernel_rfl
  rw [run_sliceAt_slice _ _ _ _ _ _ ht, run_slice_h _ _ _ _ _ ht .i64 (n : Int) (by omega) (by omega), hs]
  simp only [Result.andThen, sliced, Nat.zero_mul, Int.toNat_natCast, Nat.sub_zero]
  cases A <;> simp [addr_add_zero]
set_option maxRecDepth 100000 in
set_option maxHeartbeats 8000000 in
theorem trim_any (A : Option Addr) (c B : Nat) (gs : List R.G) (w : World) (hr : Reads w B 3 A gs.length (R.gcs gs)) (hB : B ≤ w.heap.size) (hl : gs.length ≤ 1000) (hc : gs.length ≤ c) :
    Calls Try.prog 19 #[.slice A gs.length c] w fun e w' => R.Out (R.trimEnd R.bl gs) w w' e := by
  have HR := Lib.hid hr
  have HT := Lib.hid (R.trim_take R.bl gs)
  clear hr
  go_enter Try.func19, Try.ntmps19
  go_wp2_with fail
  go_loopw [3] (fun v wr => ∃ n : Nat, v = .int .i64 n ∧ n ≤ gs.length ∧ Hid (∀ i, n ≤ i → ∀ x, gs[i]? = some x → R.bl x = true) ∧ Hid (Below w.heap.size w wr)) (fun v _ => (intOf v).toNat)
  case atStart => exact ⟨gs.length, rfl, Nat.le_refl _, Lib.hid (fun i hi x hx => by have := (List.getElem?_eq_some_iff.1 hx).1; omega), Lib.hid (Below.refl _ _)⟩
  case round =>
    obtain ⟨n, rfl, hn, hp, hbl⟩ := hrel
    have FIN : ∀ W : World, Below w.heap.size w W → (n = 0 ∨ ∃ x, gs[n - 1]? = some x ∧ R.bl x = false) → Calls Try.prog 27 #[.slice A n c] W fun e w' => R.Out (R.trimEnd R.bl gs) w w' e := fun W hb h0 => by
      have e : (gs.take n).length = n := by rw [List.length_take, Nat.min_eq_left hn]
      have h := clone_any A c B (gs.take n) W (by rw [e]; exact (HR.out.below hb hB).take_gl hn) (Nat.le_trans hB hb.size) (by rw [e]; omega)
      rw [e] at h
      refine h.mono ?_
      rintro e w' ⟨v, rfl, h1, h2⟩
      rw [HT.out n hp.out h0]
      exact ⟨v, rfl, own_lower h1 hb.size, hb.trans (h2.mono hb.size)⟩
    have FIN := Lib.hid FIN
    have SL := Lib.hid (slice_upto A hn hc)
    by_cases h0 : 0 < n
    · obtain ⟨m, hm⟩ : ∃ m, m + 1 = n := ⟨n - 1, by omega⟩
      have hml : m < gs.length := by omega
      obtain ⟨b, off, rfl, hbB, hcl⟩ := (HR.out.below hbl.out hB).gl (by omega)
      obtain ⟨c0, c1, c2⟩ := hcl m hml
      have HG : Hid (gs[n - 1]? = some gs[m]) := Lib.hid (by rw [show n - 1 = m by omega, List.getElem?_eq_getElem hml])
      have HG2 : Hid (gs[m]? = some gs[m]) := Lib.hid (List.getElem?_eq_getElem hml)
      have q1 : decide (0 < n) = true := decide_eq_true h0
      have q2 : (0 : Int) ≤ (m : Int) := by omega
      have q3 : (m : Int) < (gs.length : Int) := by omega
      have u1 : IntKind.i64.wrap ((n : Int) - 1) = (m : Int) := by rw [show (n : Int) - 1 = (m : Int) by omega]; simp [IntKind.wrap, IntKind.bits, IntKind.signed]; omega
      have hbw : b < wr.heap.size := Nat.lt_of_lt_of_le hbB (Nat.le_trans hB hbl.out.size)
      clear hcl
      generalize gs[m] = g at *
      obtain ⟨gt, gw, gs'⟩ := g
      simp only at c0 c1 c2
      have KB : Hid (∀ w1 : World, (w1.cell? ⟨b, off + m * 3, none⟩ = some (.string gt) ∧ w1.cell? ⟨b, off + m * 3 + 1, none⟩ = some (.bool gw) ∧ w1.cell? ⟨b, off + m * 3 + 2, none⟩ = some (.int .i64 gs') ∧ Below w.heap.size w w1) → Calls Try.prog 31 #[] w1 fun e w' => e = .returned (.agg #[.string ⟨#[32]⟩, .bool false, .int .i64 0]) ∧ (w'.cell? ⟨b, off + m * 3, none⟩ = some (.string gt) ∧ w'.cell? ⟨b, off + m * 3 + 1, none⟩ = some (.bool gw) ∧ w'.cell? ⟨b, off + m * 3 + 2, none⟩ = some (.int .i64 gs') ∧ Below w.heap.size w w')) := Lib.hid (fun w1 h => by
        refine (blank_any w1).mono ?_
        rintro e w' ⟨rfl, hb⟩
        have hbs : b < w1.heap.size := Nat.lt_of_lt_of_le (Nat.lt_of_lt_of_le hbB hB) h.2.2.2.size
        exact ⟨rfl, (hb.cell (p := ⟨b, _, none⟩) hbs).trans h.1, (hb.cell (p := ⟨b, _, none⟩) hbs).trans h.2.1, (hb.cell (p := ⟨b, _, none⟩) hbs).trans h.2.2.1, h.2.2.2.trans (hb.mono h.2.2.2.size)⟩)
      by_cases hx : (⟨gt, gw, gs'⟩ : R.G) = R.sp
      · have hp2 : Hid (∀ i, m ≤ i → ∀ x, gs[i]? = some x → R.bl x = true) := Lib.hid (fun i hi x hx' => by
          by_cases e : i = m
          · subst e; rw [HG2.out] at hx'; injection hx' with hx'; subst hx'; exact decide_eq_true hx
          · exact hp.out i (by omega) x hx')
        unfold R.sp at hx
        injection hx with e1 e2 e3
        subst e1 e2 e3
        have EQ := R.eq_yes R.sp
        simp only [R.sp] at EQ
        clear HG HG2 hp FIN SL
        go_wp2_with fail
        refine wp_region_held_drew (S := fun w' => w'.cell? ⟨b, off + m * 3, none⟩ = some (.string ⟨#[32]⟩) ∧ w'.cell? ⟨b, off + m * 3 + 1, none⟩ = some (.bool false) ∧ w'.cell? ⟨b, off + m * 3 + 2, none⟩ = some (.int .i64 0) ∧ Below w.heap.size w w') (by kernel_rfl) ⟨c0, c1, c2, hbl.out.drew⟩ (fun hHeld => ?_)
        refine wpAnyH_take (i := 0) (v := ?_) rfl (by kernel_rfl) (by kernel_rfl) (by kernel_rfl) (fun _ _ _ h => h) (Or.inl ⟨by kernel_rfl, ?_⟩) (by assumption) ?_
        rotate_left 1
        · (intro w hSw; (try dsimp only at hSw); (try simp only [List.getElem_toArray, List.getElem_cons_succ, List.getElem_cons_zero]); go_simp) <;> (with_reducible rfl)
        try simp only [List.getElem_toArray, List.getElem_cons_succ, List.getElem_cons_zero]
        try simp only [List.getElem_toArray, List.getElem_cons_succ, List.getElem_cons_zero, Act.put, List.setIfInBounds_toArray, List.set_cons_zero, List.set_cons_succ]
        refine wpAnyH_take (i := 1) (v := ?_) rfl (by kernel_rfl) (by kernel_rfl) (by kernel_rfl) (fun _ _ _ h => h) (Or.inl ⟨by kernel_rfl, ?_⟩) (by assumption) ?_
        rotate_left 1
        · (intro w hSw; (try dsimp only at hSw); (try simp only [List.getElem_toArray, List.getElem_cons_succ, List.getElem_cons_zero]); go_simp) <;> (with_reducible rfl)
        try simp only [List.getElem_toArray, List.getElem_cons_succ, List.getElem_cons_zero]
        try simp only [List.getElem_toArray, List.getElem_cons_succ, List.getElem_cons_zero, Act.put, List.setIfInBounds_toArray, List.set_cons_zero, List.set_cons_succ]
        refine wpAnyH_take (i := 2) (v := ?_) rfl (by kernel_rfl) (by kernel_rfl) (by kernel_rfl) (fun _ _ _ h => h) (Or.inl ⟨by kernel_rfl, ?_⟩) (by assumption) ?_
        rotate_left 1
        · (intro w hSw; (try dsimp only at hSw); (try simp only [List.getElem_toArray, List.getElem_cons_succ, List.getElem_cons_zero]); go_simp) <;> (with_reducible rfl)
        try simp only [List.getElem_toArray, List.getElem_cons_succ, List.getElem_cons_zero]
        try simp only [List.getElem_toArray, List.getElem_cons_succ, List.getElem_cons_zero, Act.put, List.setIfInBounds_toArray, List.set_cons_zero, List.set_cons_succ]
        refine wpAnyH_take (i := 3) (v := ?_) rfl (by kernel_rfl) (by kernel_rfl) (by kernel_rfl) (fun _ _ _ h => h) (Or.inl ⟨by kernel_rfl, ?_⟩) (by assumption) ?_
        rotate_left 1
        · (intro w hSw; (try dsimp only at hSw); (try simp only [List.getElem_toArray, List.getElem_cons_succ, List.getElem_cons_zero]); go_simp) <;> (with_reducible rfl)
        try simp only [List.getElem_toArray, List.getElem_cons_succ, List.getElem_cons_zero]
        try simp only [List.getElem_toArray, List.getElem_cons_succ, List.getElem_cons_zero, Act.put, List.setIfInBounds_toArray, List.set_cons_zero, List.set_cons_succ]
        refine wpAnyH_take (i := 4) (v := ?_) rfl (by kernel_rfl) (by kernel_rfl) (by kernel_rfl) (fun _ _ _ h => h) (Or.inl ⟨by kernel_rfl, ?_⟩) (by assumption) ?_
        rotate_left 1
        · (intro w hSw; (try dsimp only at hSw); (try simp only [List.getElem_toArray, List.getElem_cons_succ, List.getElem_cons_zero]); go_simp) <;> (with_reducible rfl)
        try simp only [List.getElem_toArray, List.getElem_cons_succ, List.getElem_cons_zero]
        try simp only [List.getElem_toArray, List.getElem_cons_succ, List.getElem_cons_zero, Act.put, List.setIfInBounds_toArray, List.set_cons_zero, List.set_cons_succ]
        refine wpAnyH_take (i := 5) (v := ?_) rfl (by kernel_rfl) (by kernel_rfl) (by kernel_rfl) (fun _ _ _ h => h) (Or.inl ⟨by kernel_rfl, ?_⟩) (by assumption) ?_
        rotate_left 1
        · (intro w hSw; (try dsimp only at hSw); (try simp only [List.getElem_toArray, List.getElem_cons_succ, List.getElem_cons_zero]); go_simp) <;> (with_reducible rfl)
        try simp only [List.getElem_toArray, List.getElem_cons_succ, List.getElem_cons_zero]
        try simp only [List.getElem_toArray, List.getElem_cons_succ, List.getElem_cons_zero, Act.put, List.setIfInBounds_toArray, List.set_cons_zero, List.set_cons_succ]
        refine wpAnyH_take (i := 6) (v := ?_) rfl (by kernel_rfl) (by kernel_rfl) (by kernel_rfl) (fun _ _ _ h => h) (Or.inl ⟨by kernel_rfl, ?_⟩) (by assumption) ?_
        rotate_left 1
        · (intro w hSw; (try dsimp only at hSw); (try simp only [List.getElem_toArray, List.getElem_cons_succ, List.getElem_cons_zero]); go_simp) <;> (with_reducible rfl)
        try simp only [List.getElem_toArray, List.getElem_cons_succ, List.getElem_cons_zero]
        try simp only [List.getElem_toArray, List.getElem_cons_succ, List.getElem_cons_zero, Act.put, List.setIfInBounds_toArray, List.set_cons_zero, List.set_cons_succ]
        refine wpAnyH_take (i := 7) (v := ?_) rfl (by kernel_rfl) (by kernel_rfl) (by kernel_rfl) (fun _ _ _ h => h) (Or.inl ⟨by kernel_rfl, ?_⟩) (by assumption) ?_
        rotate_left 1
        · (intro w hSw; (try dsimp only at hSw); (try simp only [List.getElem_toArray, List.getElem_cons_succ, List.getElem_cons_zero]); go_simp) <;> (with_reducible rfl)
        try simp only [List.getElem_toArray, List.getElem_cons_succ, List.getElem_cons_zero]
        try simp only [List.getElem_toArray, List.getElem_cons_succ, List.getElem_cons_zero, Act.put, List.setIfInBounds_toArray, List.set_cons_zero, List.set_cons_succ]
        refine wpAnyH_ready (rs := [8]) (by kernel_rfl) (by simp) (AllReadyH.cons rfl (fun K hK => ?_) AllReadyH.nil)
        simp only [List.getElem_toArray, List.getElem_cons_succ, List.getElem_cons_zero]
        go_simp
        go_at_call 31
        (with_reducible refine (KB.out _ hHeld).mono ?_)
        rintro e w' ⟨rfl, hS⟩
        try go_wp2_with fail
        refine hK.out _ _ hS (fun hHeld => ?_)
        clear hK K
        try simp only [List.getElem_toArray, List.getElem_cons_succ, List.getElem_cons_zero, Act.put, List.setIfInBounds_toArray, List.set_cons_zero, List.set_cons_succ]
        refine wpAnyH_take (i := 9) (v := ?_) rfl (by kernel_rfl) (by kernel_rfl) (by kernel_rfl) (fun _ _ _ h => h) (Or.inl ⟨by kernel_rfl, ?_⟩) (by assumption) ?_
        rotate_left 1
        · (intro w hSw; (try dsimp only at hSw); (try simp only [List.getElem_toArray, List.getElem_cons_succ, List.getElem_cons_zero]); go_simp) <;> (with_reducible rfl)
        try simp only [List.getElem_toArray, List.getElem_cons_succ, List.getElem_cons_zero]
        try simp only [List.getElem_toArray, List.getElem_cons_succ, List.getElem_cons_zero, Act.put, List.setIfInBounds_toArray, List.set_cons_zero, List.set_cons_succ]
        refine wpAnyH_take (i := 10) (v := ?_) rfl (by kernel_rfl) (by kernel_rfl) (by kernel_rfl) (fun _ _ _ h => h) (Or.inl ⟨by kernel_rfl, ?_⟩) (by assumption) ?_
        rotate_left 1
        · (intro w hSw; (try dsimp only at hSw); (try simp only [List.getElem_toArray, List.getElem_cons_succ, List.getElem_cons_zero]); go_simp) <;> (with_reducible rfl)
        try simp only [List.getElem_toArray, List.getElem_cons_succ, List.getElem_cons_zero]
        try simp only [List.getElem_toArray, List.getElem_cons_succ, List.getElem_cons_zero, Act.put, List.setIfInBounds_toArray, List.set_cons_zero, List.set_cons_succ]
        refine wpAnyH_done (by kernel_rfl) ?_ _
        have hb2 := hS.2.2.2
        clear hS
        go_wp2_with fail
        go_roundw
        case rel => exact ⟨m, rfl, by omega, hp2, Lib.hid hb2⟩
        case measure => simp [intOf] <;> omega
      · have hfin : n = 0 ∨ ∃ x, gs[n - 1]? = some x ∧ R.bl x = false := .inr ⟨_, HG.out, decide_eq_false hx⟩
        have EQ := R.eq_no hx
        simp only [R.sp] at EQ
        have HF := Lib.hid hfin
        clear HG HG2 hp hx hfin
        go_wp2_with fail
        refine wp_region_held_drew (S := fun w' => w'.cell? ⟨b, off + m * 3, none⟩ = some (.string gt) ∧ w'.cell? ⟨b, off + m * 3 + 1, none⟩ = some (.bool gw) ∧ w'.cell? ⟨b, off + m * 3 + 2, none⟩ = some (.int .i64 gs') ∧ Below w.heap.size w w') (by kernel_rfl) ⟨c0, c1, c2, hbl.out.drew⟩ (fun hHeld => ?_)
        refine wpAnyH_take (i := 0) (v := ?_) rfl (by kernel_rfl) (by kernel_rfl) (by kernel_rfl) (fun _ _ _ h => h) (Or.inl ⟨by kernel_rfl, ?_⟩) (by assumption) ?_
        rotate_left 1
        · (intro w hSw; (try dsimp only at hSw); (try simp only [List.getElem_toArray, List.getElem_cons_succ, List.getElem_cons_zero]); go_simp) <;> (with_reducible rfl)
        try simp only [List.getElem_toArray, List.getElem_cons_succ, List.getElem_cons_zero]
        try simp only [List.getElem_toArray, List.getElem_cons_succ, List.getElem_cons_zero, Act.put, List.setIfInBounds_toArray, List.set_cons_zero, List.set_cons_succ]
        refine wpAnyH_take (i := 1) (v := ?_) rfl (by kernel_rfl) (by kernel_rfl) (by kernel_rfl) (fun _ _ _ h => h) (Or.inl ⟨by kernel_rfl, ?_⟩) (by assumption) ?_
        rotate_left 1
        · (intro w hSw; (try dsimp only at hSw); (try simp only [List.getElem_toArray, List.getElem_cons_succ, List.getElem_cons_zero]); go_simp) <;> (with_reducible rfl)
        try simp only [List.getElem_toArray, List.getElem_cons_succ, List.getElem_cons_zero]
        try simp only [List.getElem_toArray, List.getElem_cons_succ, List.getElem_cons_zero, Act.put, List.setIfInBounds_toArray, List.set_cons_zero, List.set_cons_succ]
        refine wpAnyH_take (i := 2) (v := ?_) rfl (by kernel_rfl) (by kernel_rfl) (by kernel_rfl) (fun _ _ _ h => h) (Or.inl ⟨by kernel_rfl, ?_⟩) (by assumption) ?_
        rotate_left 1
        · (intro w hSw; (try dsimp only at hSw); (try simp only [List.getElem_toArray, List.getElem_cons_succ, List.getElem_cons_zero]); go_simp) <;> (with_reducible rfl)
        try simp only [List.getElem_toArray, List.getElem_cons_succ, List.getElem_cons_zero]
        try simp only [List.getElem_toArray, List.getElem_cons_succ, List.getElem_cons_zero, Act.put, List.setIfInBounds_toArray, List.set_cons_zero, List.set_cons_succ]
        refine wpAnyH_take (i := 3) (v := ?_) rfl (by kernel_rfl) (by kernel_rfl) (by kernel_rfl) (fun _ _ _ h => h) (Or.inl ⟨by kernel_rfl, ?_⟩) (by assumption) ?_
        rotate_left 1
        · (intro w hSw; (try dsimp only at hSw); (try simp only [List.getElem_toArray, List.getElem_cons_succ, List.getElem_cons_zero]); go_simp) <;> (with_reducible rfl)
        try simp only [List.getElem_toArray, List.getElem_cons_succ, List.getElem_cons_zero]
        try simp only [List.getElem_toArray, List.getElem_cons_succ, List.getElem_cons_zero, Act.put, List.setIfInBounds_toArray, List.set_cons_zero, List.set_cons_succ]
        refine wpAnyH_take (i := 4) (v := ?_) rfl (by kernel_rfl) (by kernel_rfl) (by kernel_rfl) (fun _ _ _ h => h) (Or.inl ⟨by kernel_rfl, ?_⟩) (by assumption) ?_
        rotate_left 1
        · (intro w hSw; (try dsimp only at hSw); (try simp only [List.getElem_toArray, List.getElem_cons_succ, List.getElem_cons_zero]); go_simp) <;> (with_reducible rfl)
        try simp only [List.getElem_toArray, List.getElem_cons_succ, List.getElem_cons_zero]
        try simp only [List.getElem_toArray, List.getElem_cons_succ, List.getElem_cons_zero, Act.put, List.setIfInBounds_toArray, List.set_cons_zero, List.set_cons_succ]
        refine wpAnyH_take (i := 5) (v := ?_) rfl (by kernel_rfl) (by kernel_rfl) (by kernel_rfl) (fun _ _ _ h => h) (Or.inl ⟨by kernel_rfl, ?_⟩) (by assumption) ?_
        rotate_left 1
        · (intro w hSw; (try dsimp only at hSw); (try simp only [List.getElem_toArray, List.getElem_cons_succ, List.getElem_cons_zero]); go_simp) <;> (with_reducible rfl)
        try simp only [List.getElem_toArray, List.getElem_cons_succ, List.getElem_cons_zero]
        try simp only [List.getElem_toArray, List.getElem_cons_succ, List.getElem_cons_zero, Act.put, List.setIfInBounds_toArray, List.set_cons_zero, List.set_cons_succ]
        refine wpAnyH_take (i := 6) (v := ?_) rfl (by kernel_rfl) (by kernel_rfl) (by kernel_rfl) (fun _ _ _ h => h) (Or.inl ⟨by kernel_rfl, ?_⟩) (by assumption) ?_
        rotate_left 1
        · (intro w hSw; (try dsimp only at hSw); (try simp only [List.getElem_toArray, List.getElem_cons_succ, List.getElem_cons_zero]); go_simp) <;> (with_reducible rfl)
        try simp only [List.getElem_toArray, List.getElem_cons_succ, List.getElem_cons_zero]
        try simp only [List.getElem_toArray, List.getElem_cons_succ, List.getElem_cons_zero, Act.put, List.setIfInBounds_toArray, List.set_cons_zero, List.set_cons_succ]
        refine wpAnyH_take (i := 7) (v := ?_) rfl (by kernel_rfl) (by kernel_rfl) (by kernel_rfl) (fun _ _ _ h => h) (Or.inl ⟨by kernel_rfl, ?_⟩) (by assumption) ?_
        rotate_left 1
        · (intro w hSw; (try dsimp only at hSw); (try simp only [List.getElem_toArray, List.getElem_cons_succ, List.getElem_cons_zero]); go_simp) <;> (with_reducible rfl)
        try simp only [List.getElem_toArray, List.getElem_cons_succ, List.getElem_cons_zero]
        try simp only [List.getElem_toArray, List.getElem_cons_succ, List.getElem_cons_zero, Act.put, List.setIfInBounds_toArray, List.set_cons_zero, List.set_cons_succ]
        refine wpAnyH_ready (rs := [8]) (by kernel_rfl) (by simp) (AllReadyH.cons rfl (fun K hK => ?_) AllReadyH.nil)
        simp only [List.getElem_toArray, List.getElem_cons_succ, List.getElem_cons_zero]
        go_simp
        go_at_call 31
        (with_reducible refine (KB.out _ hHeld).mono ?_)
        rintro e w' ⟨rfl, hS⟩
        try go_wp2_with fail
        refine hK.out _ _ hS (fun hHeld => ?_)
        clear hK K
        try simp only [List.getElem_toArray, List.getElem_cons_succ, List.getElem_cons_zero, Act.put, List.setIfInBounds_toArray, List.set_cons_zero, List.set_cons_succ]
        refine wpAnyH_take (i := 9) (v := ?_) rfl (by kernel_rfl) (by kernel_rfl) (by kernel_rfl) (fun _ _ _ h => h) (Or.inl ⟨by kernel_rfl, ?_⟩) (by assumption) ?_
        rotate_left 1
        · (intro w hSw; (try dsimp only at hSw); (try simp only [List.getElem_toArray, List.getElem_cons_succ, List.getElem_cons_zero]); go_simp) <;> (with_reducible rfl)
        try simp only [List.getElem_toArray, List.getElem_cons_succ, List.getElem_cons_zero]
        try simp only [List.getElem_toArray, List.getElem_cons_succ, List.getElem_cons_zero, Act.put, List.setIfInBounds_toArray, List.set_cons_zero, List.set_cons_succ]
        refine wpAnyH_take (i := 10) (v := ?_) rfl (by kernel_rfl) (by kernel_rfl) (by kernel_rfl) (fun _ _ _ h => h) (Or.inl ⟨by kernel_rfl, ?_⟩) (by assumption) ?_
        rotate_left 1
        · (intro w hSw; (try dsimp only at hSw); (try simp only [List.getElem_toArray, List.getElem_cons_succ, List.getElem_cons_zero]); go_simp) <;> (with_reducible rfl)
        try simp only [List.getElem_toArray, List.getElem_cons_succ, List.getElem_cons_zero]
        try simp only [List.getElem_toArray, List.getElem_cons_succ, List.getElem_cons_zero, Act.put, List.setIfInBounds_toArray, List.set_cons_zero, List.set_cons_succ]
        refine wpAnyH_done (by kernel_rfl) ?_ _
        have hb2 := hS.2.2.2
        clear hS
        have SL2 := SL.out
        clear SL EQ
        go_wp2_with fail
        refine (FIN.out _ hb2 HF.out).mono ?_
        rintro e w' ⟨v, rfl, h1, h2⟩
        go_wp2_with fail
        go_ret
        exact ⟨v, rfl, h1, h2⟩
    · have q1 : decide (0 < n) = false := decide_eq_false h0
      have SL2 := SL.out
      clear SL
      go_wp2_with fail
      go_quiet (fail)
      go_wp2_with fail
      refine (FIN.out _ (below_drewN hbl.out _) (.inl (by omega))).mono ?_
      rintro e w' ⟨v, rfl, h1, h2⟩
      go_wp2_with fail
      go_ret
      exact ⟨v, rfl, h1, h2⟩
end Go.Proofs.Yteakiielcmgkeaa
